/- The abstract machine, and the contracts of the code: part 48. -/
import Derived.Test.YtechlagohmjfgaaFwCp

section
/- compact: bytes laid. -/
namespace Go.Fw
open Go Go.Proofs
set_option linter.unusedVariables false
set_option linter.unusedSimpArgs false

def F39 : Fun
  | [.by b] => if b.length ≤ 549755813888 then some ([.by b], .own 0) else none
  | _ => none

theorem ct39 : CT [] [0, 2] [] := ⟨GClOk.nil _⟩

theorem c39 : ACon Try.prog 39 F39 := by
  refine aconc E_ok (rs := [.tmp 2 22]) Try.func39 rfl Try.ntmps39 (by kernel_rfl) rfl (by decide) F39 (np := 1) ?_ ?_
  · intro ts h; unfold F39; split <;> first | rfl | (simp at h; done)
  intro ts H r hF hwf
  unfold F39 at hF
  split at hF <;> try (cases hF; done)
  rename_i b
  split at hF
  case isFalse => cases hF
  rename_i hc
  have hb := hc
  cases hF
  repeat refine St trivial ct39 ?_
  exact AWP.ret (Fin trivial [] [0])

def F36 : Fun
  | [.by b, .int .u8 n, .int .i64 m] => if b.length ≤ 549755813000 ∧ 0 ≤ m ∧ m ≤ 16 then some ([.by (b ++ le m.toNat n)], .own 0) else none
  | _ => none

theorem ct36 : CT [] [0, 1, 2, 6, 7, 8, 21, 22, 23] [] := ⟨GClOk.nil _⟩

theorem c36 : ACon Try.prog 36 F36 := by
  refine aconc E_ok (rs := [.tmp 6 22]) Try.func36 rfl Try.ntmps36 (by kernel_rfl) rfl (by decide) F36 (np := 3) ?_ ?_
  · intro ts h; unfold F36; split <;> first | rfl | (simp at h; done)
  intro ts H r hF hwf
  unfold F36 at hF
  split at hF <;> try (cases hF; done)
  rename_i b n m
  split at hF
  case isFalse => cases hF
  rename_i hc
  obtain ⟨hb, h0, h1⟩ := hc
  cases hF
  have hn := inK_u8 (hwf (.int .u8 n) (by simp))
  repeat refine St trivial ct36 ?_
  refine AWP.loop (G := { k : Nat // k ≤ m.toNat }) (fun k => ⟨[(7, .own 0), (8, .t (.int .u64 (shrB k.1 n))), (21, .t (.int .i64 m)), (22, .t (.int .i64 (k.1 : Int)))], [.by (b ++ le k.1 n)]⟩)
    (fun k => m.toNat - k.1) ⟨0, by omega⟩ (Wt (And.intro (And.intro @shrB.eq_1 <| @shrB.eq_2) <| (And.intro @le.eq_1 <| @le.eq_2)) [7, 8, 21, 22] [0]) ?_
  intro ⟨k, hk⟩
  dsimp only
  by_cases hlt : (k : Int) < m
  · have hl : (b ++ le k n).length ≤ 549755813100 := by simp [le_len]; omega
    have hr := shrB_range k n (by omega) (by omega)
    repeat refine St (And.intro @shr8 <| @le_len) ct36 ?_
    exact ⟨⟨k + 1, by omega⟩, (Wt (And.intro (And.intro @shrB.eq_1 <| @shrB.eq_2) <| And.intro (And.intro @le.eq_1 <| @le.eq_2) <| @List.append_assoc.{0}) [7, 8, 21, 22] [2]), by simp only; omega⟩
  · obtain rfl : k = m.toNat := by omega
    repeat refine St trivial ct36 ?_
    exact AWP.ret (Fin trivial [] [0])

def F37 : Fun
  | [.by b, .int .u16 n, .int .i64 m] => if b.length ≤ 549755813000 ∧ 0 ≤ m ∧ m ≤ 16 then some ([.by (b ++ le m.toNat n)], .own 0) else none
  | _ => none

theorem ct37 : CT [] [0, 1, 2, 6, 7, 8, 21, 22, 23] [] := ⟨GClOk.nil _⟩

theorem c37 : ACon Try.prog 37 F37 := by
  refine aconc E_ok (rs := [.tmp 6 22]) Try.func37 rfl Try.ntmps37 (by kernel_rfl) rfl (by decide) F37 (np := 3) ?_ ?_
  · intro ts h; unfold F37; split <;> first | rfl | (simp at h; done)
  intro ts H r hF hwf
  unfold F37 at hF
  split at hF <;> try (cases hF; done)
  rename_i b n m
  split at hF
  case isFalse => cases hF
  rename_i hc
  obtain ⟨hb, h0, h1⟩ := hc
  cases hF
  have hn := inK_u16 (hwf (.int .u16 n) (by simp))
  repeat refine St trivial ct37 ?_
  refine AWP.loop (G := { k : Nat // k ≤ m.toNat }) (fun k => ⟨[(7, .own 0), (8, .t (.int .u64 (shrB k.1 n))), (21, .t (.int .i64 m)), (22, .t (.int .i64 (k.1 : Int)))], [.by (b ++ le k.1 n)]⟩)
    (fun k => m.toNat - k.1) ⟨0, by omega⟩ (Wt (And.intro (And.intro @shrB.eq_1 <| @shrB.eq_2) <| (And.intro @le.eq_1 <| @le.eq_2)) [7, 8, 21, 22] [0]) ?_
  intro ⟨k, hk⟩
  dsimp only
  by_cases hlt : (k : Int) < m
  · have hl : (b ++ le k n).length ≤ 549755813100 := by simp [le_len]; omega
    have hr := shrB_range k n (by omega) (by omega)
    repeat refine St (And.intro @shr8 <| @le_len) ct37 ?_
    exact ⟨⟨k + 1, by omega⟩, (Wt (And.intro (And.intro @shrB.eq_1 <| @shrB.eq_2) <| And.intro (And.intro @le.eq_1 <| @le.eq_2) <| @List.append_assoc.{0}) [7, 8, 21, 22] [2]), by simp only; omega⟩
  · obtain rfl : k = m.toNat := by omega
    repeat refine St trivial ct37 ?_
    exact AWP.ret (Fin trivial [] [0])

def F34 : Fun
  | [.by b, .int .u32 n, .int .i64 m] => if b.length ≤ 549755813000 ∧ 0 ≤ m ∧ m ≤ 16 then some ([.by (b ++ le m.toNat n)], .own 0) else none
  | _ => none

theorem ct34 : CT [] [0, 1, 2, 6, 7, 8, 21, 22, 23] [] := ⟨GClOk.nil _⟩

theorem c34 : ACon Try.prog 34 F34 := by
  refine aconc E_ok (rs := [.tmp 6 22]) Try.func34 rfl Try.ntmps34 (by kernel_rfl) rfl (by decide) F34 (np := 3) ?_ ?_
  · intro ts h; unfold F34; split <;> first | rfl | (simp at h; done)
  intro ts H r hF hwf
  unfold F34 at hF
  split at hF <;> try (cases hF; done)
  rename_i b n m
  split at hF
  case isFalse => cases hF
  rename_i hc
  obtain ⟨hb, h0, h1⟩ := hc
  cases hF
  have hn := inK_u32 (hwf (.int .u32 n) (by simp))
  repeat refine St trivial ct34 ?_
  refine AWP.loop (G := { k : Nat // k ≤ m.toNat }) (fun k => ⟨[(7, .own 0), (8, .t (.int .u64 (shrB k.1 n))), (21, .t (.int .i64 m)), (22, .t (.int .i64 (k.1 : Int)))], [.by (b ++ le k.1 n)]⟩)
    (fun k => m.toNat - k.1) ⟨0, by omega⟩ (Wt (And.intro (And.intro @shrB.eq_1 <| @shrB.eq_2) <| (And.intro @le.eq_1 <| @le.eq_2)) [7, 8, 21, 22] [0]) ?_
  intro ⟨k, hk⟩
  dsimp only
  by_cases hlt : (k : Int) < m
  · have hl : (b ++ le k n).length ≤ 549755813100 := by simp [le_len]; omega
    have hr := shrB_range k n (by omega) (by omega)
    repeat refine St (And.intro @shr8 <| @le_len) ct34 ?_
    exact ⟨⟨k + 1, by omega⟩, (Wt (And.intro (And.intro @shrB.eq_1 <| @shrB.eq_2) <| And.intro (And.intro @le.eq_1 <| @le.eq_2) <| @List.append_assoc.{0}) [7, 8, 21, 22] [2]), by simp only; omega⟩
  · obtain rfl : k = m.toNat := by omega
    repeat refine St trivial ct34 ?_
    exact AWP.ret (Fin trivial [] [0])

def F35 : Fun
  | [.by b, .int .u64 n, .int .i64 m] => if b.length ≤ 549755813000 ∧ 0 ≤ m ∧ m ≤ 16 then some ([.by (b ++ le m.toNat n)], .own 0) else none
  | _ => none

theorem ct35 : CT [] [0, 1, 2, 6, 7, 8, 20, 21, 22] [] := ⟨GClOk.nil _⟩

theorem c35 : ACon Try.prog 35 F35 := by
  refine aconc E_ok (rs := [.tmp 6 22]) Try.func35 rfl Try.ntmps35 (by kernel_rfl) rfl (by decide) F35 (np := 3) ?_ ?_
  · intro ts h; unfold F35; split <;> first | rfl | (simp at h; done)
  intro ts H r hF hwf
  unfold F35 at hF
  split at hF <;> try (cases hF; done)
  rename_i b n m
  split at hF
  case isFalse => cases hF
  rename_i hc
  obtain ⟨hb, h0, h1⟩ := hc
  cases hF
  have hn := inK_u64 (hwf (.int .u64 n) (by simp))
  repeat refine St trivial ct35 ?_
  refine AWP.loop (G := { k : Nat // k ≤ m.toNat }) (fun k => ⟨[(7, .own 0), (8, .t (.int .u64 (shrB k.1 n))), (20, .t (.int .i64 m)), (21, .t (.int .i64 (k.1 : Int)))], [.by (b ++ le k.1 n)]⟩)
    (fun k => m.toNat - k.1) ⟨0, by omega⟩ (Wt (And.intro (And.intro @shrB.eq_1 <| @shrB.eq_2) <| (And.intro @le.eq_1 <| @le.eq_2)) [7, 8, 20, 21] [0]) ?_
  intro ⟨k, hk⟩
  dsimp only
  by_cases hlt : (k : Int) < m
  · have hl : (b ++ le k n).length ≤ 549755813100 := by simp [le_len]; omega
    have hr := shrB_range k n (by omega) (by omega)
    repeat refine St (And.intro @shr8 <| @le_len) ct35 ?_
    exact ⟨⟨k + 1, by omega⟩, (Wt (And.intro (And.intro @shrB.eq_1 <| @shrB.eq_2) <| And.intro (And.intro @le.eq_1 <| @le.eq_2) <| @List.append_assoc.{0}) [7, 8, 20, 21] [2]), by simp only; omega⟩
  · obtain rfl : k = m.toNat := by omega
    repeat refine St trivial ct35 ?_
    exact AWP.ret (Fin trivial [] [0])

def F12 : Fun
  | [.by b, .int .u32 n] => if b.length ≤ 549755812000 then some ([.by (b ++ le 4 n)], .own 0) else none
  | _ => none

theorem ct12 : CT [(34, ⟨[false, false, false], treeG F34⟩)] [0, 1, 4] [] := ⟨(.cons c34.g (.nil _))⟩

theorem c12 : ACon Try.prog 12 F12 := by
  refine aconc E_ok (rs := [.tmp 4 22]) Try.func12 rfl Try.ntmps12 (by kernel_rfl) rfl (by decide) F12 (np := 2) ?_ ?_
  · intro ts h; unfold F12; split <;> first | rfl | (simp at h; done)
  intro ts H r hF hwf
  unfold F12 at hF
  split at hF <;> try (cases hF; done)
  rename_i b n
  split at hF
  case isFalse => cases hF
  rename_i hc
  have hb := hc
  cases hF
  have h : F34 [.by b, .int .u32 n, .int .i64 4] = some ([.by (b ++ le 4 n)], .own 0) := if_pos (by omega)
  repeat refine St h ct12 ?_
  exact AWP.ret (Fin trivial [] [0])

def F13 : Fun
  | [.by b, .int .u64 n] => if b.length ≤ 549755812000 then some ([.by (b ++ le 8 n)], .own 0) else none
  | _ => none

theorem ct13 : CT [(35, ⟨[false, false, false], treeG F35⟩)] [0, 1, 4] [] := ⟨(.cons c35.g (.nil _))⟩

theorem c13 : ACon Try.prog 13 F13 := by
  refine aconc E_ok (rs := [.tmp 4 22]) Try.func13 rfl Try.ntmps13 (by kernel_rfl) rfl (by decide) F13 (np := 2) ?_ ?_
  · intro ts h; unfold F13; split <;> first | rfl | (simp at h; done)
  intro ts H r hF hwf
  unfold F13 at hF
  split at hF <;> try (cases hF; done)
  rename_i b n
  split at hF
  case isFalse => cases hF
  rename_i hc
  have hb := hc
  cases hF
  have h : F35 [.by b, .int .u64 n, .int .i64 8] = some ([.by (b ++ le 8 n)], .own 0) := if_pos (by omega)
  repeat refine St h ct13 ?_
  exact AWP.ret (Fin trivial [] [0])

theorem put64_c {b : List UInt8} (n : Int) (h : b.length ≤ 549755812000) : F13 [.by b, .int .u64 n] = some ([.by (b ++ le 8 n)], .own 0) := if_pos h
theorem put32_c {b : List UInt8} (n : Int) (h : b.length ≤ 549755812000) : F12 [.by b, .int .u32 n] = some ([.by (b ++ le 4 n)], .own 0) := if_pos h
def F14 : Fun
  | [.by b, .int .u64 n] => if b.length ≤ 549755812000 then some ([.by (b ++ sizeB n)], .own 0) else none
  | _ => none

theorem ct14 : CT [(34, ⟨[false, false, false], treeG F34⟩), (35, ⟨[false, false, false], treeG F35⟩), (36, ⟨[false, false, false], treeG F36⟩), (37, ⟨[false, false, false], treeG F37⟩)] [0, 1, 4, 5, 12, 20] [] := ⟨(.cons c34.g (.cons c35.g (.cons c36.g (.cons c37.g (.nil _)))))⟩

theorem c14 : ACon Try.prog 14 F14 := by
  refine aconc E_ok (rs := [.tmp 4 22]) Try.func14 rfl Try.ntmps14 (by kernel_rfl) rfl (by decide) F14 (np := 2) ?_ ?_
  · intro ts h; unfold F14; split <;> first | rfl | (simp at h; done)
  intro ts H r hF hwf
  unfold F14 at hF
  split at hF <;> try (cases hF; done)
  rename_i b n
  split at hF
  case isFalse => cases hF
  rename_i hc
  have hb := hc
  cases hF
  have hn := inK_u64 (hwf (.int .u64 n) (by simp))
  have h8 : ∀ c : Int, F36 [.by b, .int .u8 c, .int .i64 1] = some ([.by (b ++ le 1 c)], .own 0) := fun c => if_pos (by omega)
  have hl : ∀ c : Int, (b ++ le 1 c).length ≤ 549755813000 := fun c => by simp [le_len]; omega
  have h16 : ∀ c d : Int, F37 [.by (b ++ le 1 c), .int .u16 d, .int .i64 2] = some ([.by (b ++ le 1 c ++ le 2 d)], .own 0) := fun c d => if_pos ⟨hl c, by omega⟩
  have h32 : ∀ c d : Int, F34 [.by (b ++ le 1 c), .int .u32 d, .int .i64 4] = some ([.by (b ++ le 1 c ++ le 4 d)], .own 0) := fun c d => if_pos ⟨hl c, by omega⟩
  have h64 : ∀ c d : Int, F35 [.by (b ++ le 1 c), .int .u64 d, .int .i64 8] = some ([.by (b ++ le 1 c ++ le 8 d)], .own 0) := fun c d => if_pos ⟨hl c, by omega⟩
  by_cases h1 : n < 253
  · have hw : IntKind.u8.wrap n = n := wrap_u8 (by omega) (by omega)
    repeat refine St (And.intro hw <| h8) ct14 ?_
    exact AWP.ret (Fin (And.intro @sizeB.eq_def <| h1) [] [0])
  by_cases h2 : n < 65536
  · have hw : IntKind.u16.wrap n = n := wrap_u16 (by omega) (by omega)
    repeat refine St (And.intro hw <| And.intro h8 <| h16) ct14 ?_
    exact AWP.ret (Fin (And.intro @sizeB.eq_def <| And.intro h1 <| And.intro h2 <| @List.append_assoc.{0}) [] [1])
  by_cases h3 : n < 4294967296
  · have hw : IntKind.u32.wrap n = n := wrap_u32 (by omega) (by omega)
    repeat refine St (And.intro hw <| And.intro h8 <| h32) ct14 ?_
    exact AWP.ret (Fin (And.intro @sizeB.eq_def <| And.intro h1 <| And.intro h2 <| And.intro h3 <| @List.append_assoc.{0}) [] [1])
  repeat refine St (And.intro h8 <| h64) ct14 ?_
  exact AWP.ret (Fin (And.intro @sizeB.eq_def <| And.intro h1 <| And.intro h2 <| And.intro h3 <| @List.append_assoc.{0}) [] [1])

theorem putsize_c {b : List UInt8} (n : Int) (h : b.length ≤ 549755812000) : F14 [.by b, .int .u64 n] = some ([.by (b ++ sizeB n)], .own 0) := if_pos h

def F19 : Fun
  | [.by b, .by x] => if b.length + x.length ≤ 549755800000 then some ([.by (b ++ sizeB x.length ++ x)], .own 0) else none
  | _ => none

theorem ct19 : CT [(14, ⟨[false, false], treeG F14⟩)] [0, 1, 4] [] := ⟨(.cons c14.g (.nil _))⟩

theorem c19 : ACon Try.prog 19 F19 := by
  refine aconc E_ok (rs := [.tmp 4 22]) Try.func19 rfl Try.ntmps19 (by kernel_rfl) rfl (by decide) F19 (np := 2) ?_ ?_
  · intro ts h; unfold F19; split <;> first | rfl | (simp at h; done)
  intro ts H r hF hwf
  unfold F19 at hF
  split at hF <;> try (cases hF; done)
  rename_i b x
  split at hF
  case isFalse => cases hF
  rename_i hc
  have hb := hc
  cases hF
  have hs := sizeB_len (x.length : Int)
  have h : F14 [.by b, .int .u64 (x.length : Int)] = some ([.by (b ++ sizeB x.length)], .own 0) := if_pos (by omega)
  have hl : (b ++ sizeB x.length).length ≤ 549755812000 := by simp; omega
  repeat refine St h ct19 ?_
  exact AWP.ret (Fin trivial [] [1])

theorem putbytes_c {b x : List UInt8} (h : b.length + x.length ≤ 549755800000) : F19 [.by b, .by x] = some ([.by (b ++ sizeB x.length ++ x)], .own 0) := if_pos h

def F18 : Fun
  | [.by b, .sq 1 xs] => match asBys xs with
    | some l => if b.length + (flat l).length ≤ 549755700000 then some ([.by (b ++ sizeB l.length ++ flat l)], .own 0) else none
    | none => none
  | _ => none

theorem ct18 : CT [(14, ⟨[false, false], treeG F14⟩), (19, ⟨[false, false], treeG F19⟩)] [0, 1, 4, 5, 7, 13, 14, 15, 16] [] := ⟨(.cons c14.g (.cons c19.g (.nil _)))⟩

theorem c18 : ACon Try.prog 18 F18 := by
  refine aconc E_ok (rs := [.tmp 4 22]) Try.func18 rfl Try.ntmps18 (by kernel_rfl) rfl (by decide) F18 (np := 2) ?_ ?_
  · intro ts h; unfold F18; split <;> first | rfl | (simp at h; done)
  intro ts H r hF hwf
  unfold F18 at hF
  split at hF <;> try (cases hF; done)
  rename_i b xs
  split at hF <;> try (cases hF; done)
  rename_i l hl
  split at hF
  case isFalse => cases hF
  rename_i hc
  have hb := hc
  cases hF
  obtain rfl := asBys_inv hl
  have hlen := len_le_flat l
  have hs := sizeB_len (l.length : Int)
  have h : F14 [.by b, .int .u64 (l.length : Int)] = some ([.by (b ++ sizeB l.length)], .own 0) := if_pos (by omega)
  repeat refine St h ct18 ?_
  refine AWP.loop (G := { k : Nat // k ≤ l.length }) (fun k => ⟨[(5, .own 0), (13, .t (.sq 1 (l.map .by))), (14, .t (.int .i64 l.length)), (15, .t (.int .i64 (k.1 : Int)))], [.by (b ++ sizeB l.length ++ flat (l.take k.1))]⟩)
    (fun k => l.length - k.1) ⟨0, by omega⟩ (Wt (And.intro @List.take_zero.{0} <| (And.intro @flat.eq_1 <| @flat.eq_2)) [5, 13, 14, 15] [0]) ?_
  intro ⟨k, hk⟩
  dsimp only
  by_cases hlt : (k : Int) < (l.length : Int)
  · have hlt' : k < l.length := by omega
    have hget := map_getD l k hlt'
    have hfl := flat_get_len l k hlt'
    have hft := flat_take l k hlt'
    have h2 : F19 [.by (b ++ sizeB l.length ++ flat (l.take k)), .by (l.getD k [])] = some ([.by (b ++ sizeB l.length ++ flat (l.take k) ++ sizeB (l.getD k []).length ++ l.getD k [])], .own 0) := if_pos (by simp only [List.length_append]; omega)
    repeat refine St (And.intro hlt' <| And.intro hget <| h2) ct18 ?_
    exact ⟨⟨k + 1, by omega⟩, (Wt (And.intro hft <| @List.append_assoc.{0}) [5, 13, 14, 15] [1]), by simp only; omega⟩
  · obtain rfl : k = l.length := by omega
    repeat refine St trivial ct18 ?_
    exact AWP.ret (Fin (@List.take_length.{0}) [] [0])

theorem putlist_c {b : List UInt8} {l : List (List UInt8)} (h : b.length + (flat l).length ≤ 549755700000) : F18 [.by b, .sq 1 (l.map .by)] = some ([.by (b ++ sizeB l.length ++ flat l)], .own 0) := by
  simp only [F18, asBys_map]; exact if_pos h

end Go.Fw

end

section
/- compact: bytes taken apart. -/
namespace Go.Fw
open Go Go.Proofs
set_option linter.unusedVariables false
set_option linter.unusedSimpArgs false

def F38 : Fun
  | [.by b, .int .i64 n] => some ([], .tup [.t (.by (spA b n)), .t (.by (spB b n)), .t (.int .i64 (spE b n))])
  | _ => none

theorem ct38 : CT [] [0, 1, 4, 5, 6, 7, 10] [(5, [⟨0, [0], [], []⟩, ⟨0, [1], [], []⟩, ⟨1, [15, 16], [], []⟩, ⟨0, [0], [], []⟩, ⟨0, [1], [], []⟩, ⟨1, [18, 19], [], []⟩, ⟨0, [17], [2], []⟩, ⟨0, [20], [2, 5], []⟩, ⟨0, [], [2, 5], []⟩])] := ⟨GClOk.nil _⟩

theorem c38 : ACon Try.prog 38 F38 := by
  refine aconc E_ok (rs := [.tmp 4 22, .tmp 5 22, .tmp 6 36]) Try.func38 rfl Try.ntmps38 (by kernel_rfl) rfl (by decide) F38 (np := 2) ?_ ?_
  · intro ts h; unfold F38; split <;> first | rfl | (simp at h; done)
  intro ts H r hF hwf
  unfold F38 at hF
  split at hF <;> try (cases hF; done)
  rename_i b n
  cases hF
  by_cases h1 : n < 0
  · repeat refine St trivial ct38 ?_
    exact AWP.ret (Fin (And.intro @spA.eq_def <| And.intro @spB.eq_def <| And.intro @spE.eq_def <| h1) [] [])
  by_cases h2 : (b.length : Int) < n
  · repeat refine St trivial ct38 ?_
    exact AWP.ret (Fin (And.intro @spA.eq_def <| And.intro @spB.eq_def <| And.intro @spE.eq_def <| And.intro h1 <| h2) [] [])
  repeat refine St trivial ct38 ?_
  exact AWP.ret (Fin (And.intro @spA.eq_def <| And.intro @spB.eq_def <| And.intro @spE.eq_def <| And.intro h1 <| h2) [] [])

def F22 : Fun
  | [.by b, .int .i64 n] => if b.length ≤ 549755813000 then some ([.by (spA b n)], .tup [.own 0, .t (.by (spB b n)), .t (.int .i64 (spE b n))]) else none
  | _ => none

theorem ct22 : CT [(38, ⟨[false, false], treeG F38⟩), (39, ⟨[false], treeG F39⟩)] [0, 1, 4, 5, 6, 7, 8, 9] [] := ⟨(.cons c38.g (.cons c39.g (.nil _)))⟩

theorem c22 : ACon Try.prog 22 F22 := by
  refine aconc E_ok (rs := [.tmp 4 22, .tmp 5 22, .tmp 6 36]) Try.func22 rfl Try.ntmps22 (by kernel_rfl) rfl (by decide) F22 (np := 2) ?_ ?_
  · intro ts h; unfold F22; split <;> first | rfl | (simp at h; done)
  intro ts H r hF hwf
  unfold F22 at hF
  split at hF <;> try (cases hF; done)
  rename_i b n
  split at hF
  case isFalse => cases hF
  rename_i hc
  have hb := hc
  cases hF
  have h1 := spA_len b n
  have h2 := spB_len b n
  have ha : F39 [.by (spA b n)] = some ([.by (spA b n)], .own 0) := if_pos (by omega)
  have hb : F39 [.by (spB b n)] = some ([.by (spB b n)], .own 0) := if_pos (by omega)
  repeat refine St (And.intro @F38.eq_def <| And.intro ha <| hb) ct22 ?_
  exact AWP.ret (Fin trivial [1] [0])

theorem take_c {b : List UInt8} (n : Int) (h : b.length ≤ 549755813000) : F22 [.by b, .int .i64 n] = some ([.by (spA b n)], .tup [.own 0, .t (.by (spB b n)), .t (.int .i64 (spE b n))]) := if_pos h

def F40 : Fun
  | [.by b, .int .i64 n] => if n ≤ 8 then some ([], .tup [.t (.int .u64 (num (spA b n))), .t (.by (spB b n)), .t (.int .i64 (spE b n))]) else none
  | _ => none

theorem ct40 : CT [(38, ⟨[false, false], treeG F38⟩)] [0, 1, 4, 5, 6, 7, 8, 9, 10, 11, 20, 21, 22] [] := ⟨(.cons c38.g (.nil _))⟩

theorem c40 : ACon Try.prog 40 F40 := by
  refine aconc E_ok (rs := [.tmp 4 23, .tmp 5 22, .tmp 6 36]) Try.func40 rfl Try.ntmps40 (by kernel_rfl) rfl (by decide) F40 (np := 2) ?_ ?_
  · intro ts h; unfold F40; split <;> first | rfl | (simp at h; done)
  intro ts H r hF hwf
  unfold F40 at hF
  split at hF <;> try (cases hF; done)
  rename_i b n
  split at hF
  case isFalse => cases hF
  rename_i hc
  have hn := hc
  cases hF
  have h8 := spA_le b n 8 hn
  generalize hx : spA b n = x at h8
  repeat refine St (And.intro @F38.eq_def <| hx) ct40 ?_
  have hz : num (x.take 0) = 0 := by simp [num]
  refine AWP.loop (G := { k : Nat // k ≤ x.length }) (fun k => ⟨[(7, .t (.by x)), (8, .t (.by (spB b n))), (9, .t (.int .i64 (spE b n))), (10, .t (.int .u64 (num (x.take k.1)))), (20, .t (.int .i64 (x.length : Int))), (21, .t (.int .i64 (k.1 : Int)))], []⟩)
    (fun k => x.length - k.1) ⟨0, by omega⟩ (Wt (And.intro hz <| (And.intro @num.eq_1 <| @num.eq_2)) [7, 8, 9, 10, 20, 21] []) ?_
  intro ⟨k, hk⟩
  dsimp only
  by_cases hlt : (k : Int) < (x.length : Int)
  · have hd := num_take x k (by omega)
    have h88 := num_lt8 (x.take (k + 1)) (by simp; omega)
    have hp := num_lt (x.take k)
    have htl : (x.take k).length = k := by simp; omega
    rw [htl] at hp
    have hc := (x.getD k 0).toNat_lt
    have e1 : IntKind.i64.wrap (8 * (k : Int)) = ((8 * k : Nat) : Int) := by rw [wrap_i64 (by omega) (by omega)]; omega
    have e2 : IntKind.u64.wrap (((x.getD k 0).toNat : Int) * 2 ^ min (8 * k) IntKind.u64.bits) = (((x.getD k 0).toNat * 256 ^ k : Nat) : Int) := by
      have := shl_step (x.getD k 0).toNat k (by omega) (by omega)
      simp only [arith, Int.toNat_natCast] at this
      rw [if_neg (by omega)] at this
      have h1 : min (8 * k) IntKind.u64.bits = min (8 * k) 64 := rfl
      simpa using this
    have e3 : abits .or .u64 (num (x.take k) : Int) (((x.getD k 0).toNat * 256 ^ k : Nat) : Int) = ((num (x.take (k + 1)) : Nat) : Int) := by
      have := or_step (num (x.take k)) (x.getD k 0).toNat k hp (by omega)
      rw [← hd] at this
      simpa only [arith, Option.some.injEq, T.int.injEq, true_and] using this
    have e0 : ¬ ((8 * k : Nat) : Int) < 0 := by omega
    have hkx : k < x.length := by omega
    have e4 : IntKind.u64.wrap ((x.getD k 0).toNat : Int) = ((x.getD k 0).toNat : Int) := wrap_u64 (by omega) (by omega)
    repeat refine St (And.intro hkx <| And.intro e0 <| And.intro e1 <| And.intro e2 <| And.intro e3 <| e4) ct40 ?_
    exact ⟨⟨k + 1, by omega⟩, (Wt trivial [7, 8, 9, 10, 20, 21] []), by simp only; omega⟩
  · obtain rfl : k = x.length := by omega
    repeat refine St trivial ct40 ?_
    exact AWP.ret (Fin (@List.take_length.{0}) [] [])

theorem read_c (l : List UInt8) (n : Int) (h : n ≤ 8) : F40 [.by l, .int .i64 n] = some ([], .tup [.t (.int .u64 (num (spA l n))), .t (.by (spB l n)), .t (.int .i64 (spE l n))]) := if_pos h

def F24 : Fun
  | [.by b] => if b.length ≤ 549755813000 then some ([], .tup [.t (.int .u32 (num (spA b 4))), .t (.by (spB b 4)), .t (.int .i64 (spE b 4))]) else none
  | _ => none

theorem ct24 : CT [(39, ⟨[false], treeG F39⟩), (40, ⟨[false, false], treeG F40⟩)] [0, 2, 3, 4, 5, 6, 7] [] := ⟨(.cons c39.g (.cons c40.g (.nil _)))⟩

theorem c24 : ACon Try.prog 24 F24 := by
  refine aconc E_ok (rs := [.tmp 2 27, .tmp 3 22, .tmp 4 36]) Try.func24 rfl Try.ntmps24 (by kernel_rfl) rfl (by decide) F24 (np := 1) ?_ ?_
  · intro ts h; unfold F24; split <;> first | rfl | (simp at h; done)
  intro ts H r hF hwf
  unfold F24 at hF
  split at hF <;> try (cases hF; done)
  rename_i b
  split at hF
  case isFalse => cases hF
  rename_i hc
  have hb := hc
  cases hF
  have hl := spB_len b 4
  have h4 := num_lt4 (spA b 4) (spA_le b 4 4 (by omega))
  have hw : IntKind.u32.wrap (num (spA b 4) : Int) = num (spA b 4) := wrap_u32 (by omega) (by omega)
  have h1 := read_c b 4 (by omega)
  have h2 : F39 [.by (spB b 4)] = some ([.by (spB b 4)], .own 0) := if_pos (by omega)
  repeat refine St (And.intro h1 <| And.intro h2 <| hw) ct24 ?_
  exact AWP.ret (Fin trivial [0] [])

def F26 : Fun
  | [.by b] => if b.length ≤ 549755813000 then some ([], .tup [.t (.int .u64 (num (spA b 8))), .t (.by (spB b 8)), .t (.int .i64 (spE b 8))]) else none
  | _ => none

theorem ct26 : CT [(39, ⟨[false], treeG F39⟩), (40, ⟨[false, false], treeG F40⟩)] [0, 2, 3, 4, 5, 6, 7] [] := ⟨(.cons c39.g (.cons c40.g (.nil _)))⟩

theorem c26 : ACon Try.prog 26 F26 := by
  refine aconc E_ok (rs := [.tmp 2 23, .tmp 3 22, .tmp 4 36]) Try.func26 rfl Try.ntmps26 (by kernel_rfl) rfl (by decide) F26 (np := 1) ?_ ?_
  · intro ts h; unfold F26; split <;> first | rfl | (simp at h; done)
  intro ts H r hF hwf
  unfold F26 at hF
  split at hF <;> try (cases hF; done)
  rename_i b
  split at hF
  case isFalse => cases hF
  rename_i hc
  have hb := hc
  cases hF
  have hl := spB_len b 8
  have h4 := num_lt8 (spA b 8) (spA_le b 8 8 (by omega))
  have hw : IntKind.u64.wrap (num (spA b 8) : Int) = num (spA b 8) := wrap_u64 (by omega) (by omega)
  have h1 := read_c b 8 (by omega)
  have h2 : F39 [.by (spB b 8)] = some ([.by (spB b 8)], .own 0) := if_pos (by omega)
  repeat refine St (And.intro h1 <| And.intro h2 <| hw) ct26 ?_
  exact AWP.ret (Fin trivial [0] [])

theorem take64_c {b : List UInt8} (h : b.length ≤ 549755813000) : F26 [.by b] = some ([], .tup [.t (.int .u64 (num (spA b 8))), .t (.by (spB b 8)), .t (.int .i64 (spE b 8))]) := if_pos h
theorem take32_c {b : List UInt8} (h : b.length ≤ 549755813000) : F24 [.by b] = some ([], .tup [.t (.int .u32 (num (spA b 4))), .t (.by (spB b 4)), .t (.int .i64 (spE b 4))]) := if_pos h
def F41 : Fun
  | [.by b] => some ([], .tup [.t (.int .u64 ((sz b).1 : Nat)), .t (.by (sz b).2.1), .t (.int .i64 (sz b).2.2)])
  | _ => none

theorem ct41 : CT [(40, ⟨[false, false], treeG F40⟩)] [0, 2, 3, 4, 5, 6, 7, 8, 9, 10, 18, 20, 23, 25, 27, 36, 40] [] := ⟨(.cons c40.g (.nil _))⟩

set_option maxHeartbeats 2000000 in
theorem c41 : ACon Try.prog 41 F41 := by
  refine aconc E_ok (rs := [.tmp 2 23, .tmp 3 22, .tmp 4 36]) Try.func41 rfl Try.ntmps41 (by kernel_rfl) rfl (by decide) F41 (np := 1) ?_ ?_
  · intro ts h; unfold F41; split <;> first | rfl | (simp at h; done)
  intro ts H r hF hwf
  unfold F41 at hF
  split at hF <;> try (cases hF; done)
  rename_i b
  cases hF
  have r1 := read_c b 1 (by omega)
  have r2 := read_c (spB b 1) 2 (by omega)
  have r4 := read_c (spB b 1) 4 (by omega)
  have r8 := read_c (spB b 1) 8 (by omega)
  have hsz := sz.eq_1 b
  generalize sz b = R at *
  generalize spB b 1 = y at *
  by_cases h1 : spE b 1 = 0
  case neg =>
    simp only [h1, ne_eq, not_false_eq_true, if_true] at hsz
    repeat refine St r1 ct41 ?_
    exact AWP.ret (Fin hsz [] [])
  simp only [h1, ne_eq, not_true_eq_false, if_false] at hsz
  rw [h1] at r1
  obtain ⟨x, hx⟩ : ∃ x : Nat, num (spA b 1) = x := ⟨_, rfl⟩
  rw [hx] at hsz r1
  by_cases h253 : x = 253
  case pos =>
    subst h253
    simp only [Nat.reduceEqDiff, if_true, if_false] at hsz
    unfold rdR at hsz
    by_cases k1 : spE y 2 = 0
    case neg =>
      simp only [k1, ne_eq, not_false_eq_true, if_true] at hsz
      repeat refine St (And.intro r1 <| r2) ct41 ?_
      exact AWP.ret (Fin hsz [] [])
    simp only [k1, ne_eq, not_true_eq_false, if_false] at hsz
    rw [k1] at r2
    split at hsz
    · repeat refine St (And.intro r1 <| r2) ct41 ?_
      exact AWP.ret (Fin hsz [] [])
    · repeat refine St (And.intro r1 <| r2) ct41 ?_
      exact AWP.ret (Fin hsz [] [])
  by_cases h254 : x = 254
  case pos =>
    subst h254
    simp only [Nat.reduceEqDiff, if_true, if_false] at hsz
    unfold rdR at hsz
    by_cases k1 : spE y 4 = 0
    case neg =>
      simp only [k1, ne_eq, not_false_eq_true, if_true] at hsz
      repeat refine St (And.intro r1 <| r4) ct41 ?_
      exact AWP.ret (Fin hsz [] [])
    simp only [k1, ne_eq, not_true_eq_false, if_false] at hsz
    rw [k1] at r4
    split at hsz
    · repeat refine St (And.intro r1 <| r4) ct41 ?_
      exact AWP.ret (Fin hsz [] [])
    · repeat refine St (And.intro r1 <| r4) ct41 ?_
      exact AWP.ret (Fin hsz [] [])
  by_cases h255 : x = 255
  case pos =>
    subst h255
    simp only [Nat.reduceEqDiff, if_true, if_false] at hsz
    unfold rdR at hsz
    by_cases k1 : spE y 8 = 0
    case neg =>
      simp only [k1, ne_eq, not_false_eq_true, if_true] at hsz
      repeat refine St (And.intro r1 <| r8) ct41 ?_
      exact AWP.ret (Fin hsz [] [])
    simp only [k1, ne_eq, not_true_eq_false, if_false] at hsz
    rw [k1] at r8
    split at hsz
    · repeat refine St (And.intro r1 <| r8) ct41 ?_
      exact AWP.ret (Fin hsz [] [])
    · repeat refine St (And.intro r1 <| r8) ct41 ?_
      exact AWP.ret (Fin hsz [] [])
  simp only [h253, h254, h255, if_false] at hsz
  repeat refine St r1 ct41 ?_
  exact AWP.ret (Fin hsz [] [])

def F27 : Fun
  | [.by b] => if b.length ≤ 549755813000 then some ([], .tup [.t (.int .u64 ((sz b).1 : Nat)), .t (.by (sz b).2.1), .t (.int .i64 (sz b).2.2)]) else none
  | _ => none

theorem ct27 : CT [(39, ⟨[false], treeG F39⟩), (41, ⟨[false], treeG F41⟩)] [0, 2, 3, 4, 5, 6, 7] [] := ⟨(.cons c39.g (.cons c41.g (.nil _)))⟩

theorem c27 : ACon Try.prog 27 F27 := by
  refine aconc E_ok (rs := [.tmp 2 23, .tmp 3 22, .tmp 4 36]) Try.func27 rfl Try.ntmps27 (by kernel_rfl) rfl (by decide) F27 (np := 1) ?_ ?_
  · intro ts h; unfold F27; split <;> first | rfl | (simp at h; done)
  intro ts H r hF hwf
  unfold F27 at hF
  split at hF <;> try (cases hF; done)
  rename_i b
  split at hF
  case isFalse => cases hF
  rename_i hc
  have hb := hc
  cases hF
  have hl := sz_len b
  have h2 : F39 [.by (sz b).2.1] = some ([.by (sz b).2.1], .own 0) := if_pos (by omega)
  repeat refine St (And.intro @F41.eq_def <| h2) ct27 ?_
  exact AWP.ret (Fin trivial [0] [])

theorem takesize_c {b : List UInt8} (h : b.length ≤ 549755813000) : F27 [.by b] = some ([], .tup [.t (.int .u64 ((sz b).1 : Nat)), .t (.by (sz b).2.1), .t (.int .i64 (sz b).2.2)]) := if_pos h

end Go.Fw

end

section
/- compact: bounded things, lists. -/
namespace Go.Fw
open Go Go.Proofs
set_option linter.unusedVariables false
set_option linter.unusedSimpArgs false

def F44 : Fun
  | [.by b, .int .i64 most] => some ([], .tup [.t (.int .i64 ((bnd b most).1 : Nat)), .t (.by (bnd b most).2.1), .t (.int .i64 (bnd b most).2.2)])
  | _ => none

theorem ct44 : CT [(41, ⟨[false], treeG F41⟩)] [0, 1, 4, 5, 6, 7, 8, 9, 16, 20] [] := ⟨(.cons c41.g (.nil _))⟩

theorem c44 : ACon Try.prog 44 F44 := by
  refine aconc E_ok (rs := [.tmp 4 3, .tmp 5 22, .tmp 6 36]) Try.func44 rfl Try.ntmps44 (by kernel_rfl) rfl (by decide) F44 (np := 2) ?_ ?_
  · intro ts h; unfold F44; split <;> first | rfl | (simp at h; done)
  intro ts H r hF hwf
  unfold F44 at hF
  split at hF <;> try (cases hF; done)
  rename_i b most
  cases hF
  have hm := inK_i64 (hwf (.int .i64 most) (by simp))
  have hs : F41 [.by b] = some ([], .tup [.t (.int .u64 ((sz b).1 : Nat)), .t (.by (sz b).2.1), .t (.int .i64 (sz b).2.2)]) := rfl
  have hb := bnd.eq_1 b most
  generalize bnd b most = R at *
  generalize sz b = Z at *
  by_cases h1 : Z.2.2 = 0
  case neg =>
    simp only [h1, ne_eq, not_false_eq_true, if_true] at hb
    repeat refine St hs ct44 ?_
    exact AWP.ret (Fin hb [] [])
  simp only [h1, ne_eq, not_true_eq_false, if_false] at hb
  rw [h1] at hs
  by_cases h2 : most < 0
  · simp only [h2, true_or, if_true] at hb
    repeat refine St (And.intro hs <| h2) ct44 ?_
    exact AWP.ret (Fin hb [] [])
  have hw : IntKind.u64.wrap most = most := wrap_u64 (by omega) (by omega)
  by_cases h3 : most < (Z.1 : Int)
  · simp only [h3, or_true, if_true] at hb
    repeat refine St (And.intro hs <| And.intro h2 <| And.intro h3 <| hw) ct44 ?_
    exact AWP.ret (Fin hb [] [])
  simp only [h2, h3, or_self, if_false] at hb
  repeat refine St (And.intro hs <| And.intro h2 <| And.intro h3 <| hw) ct44 ?_
  exact AWP.ret (Fin hb [] [])

def F42 : Fun
  | [.by b, .int .i64 most] => some ([], .tup [.t (.by (lim b most).1), .t (.by (lim b most).2.1), .t (.int .i64 (lim b most).2.2)])
  | _ => none

theorem ct42 : CT [(38, ⟨[false, false], treeG F38⟩), (44, ⟨[false, false], treeG F44⟩)] [0, 1, 4, 5, 6, 7, 8, 9, 18] [] := ⟨(.cons c38.g (.cons c44.g (.nil _)))⟩

theorem c42 : ACon Try.prog 42 F42 := by
  refine aconc E_ok (rs := [.tmp 4 22, .tmp 5 22, .tmp 6 36]) Try.func42 rfl Try.ntmps42 (by kernel_rfl) rfl (by decide) F42 (np := 2) ?_ ?_
  · intro ts h; unfold F42; split <;> first | rfl | (simp at h; done)
  intro ts H r hF hwf
  unfold F42 at hF
  split at hF <;> try (cases hF; done)
  rename_i b most
  cases hF
  by_cases h1 : (bnd b most).2.2 = 0
  · have hl : lim b most = (spA (bnd b most).2.1 (bnd b most).1, spB (bnd b most).2.1 (bnd b most).1, spE (bnd b most).2.1 (bnd b most).1) := by simp only [lim, h1, ne_eq, not_true_eq_false, if_false]
    repeat refine St (And.intro @F44.eq_def <| @F38.eq_def) ct42 ?_
    exact AWP.ret (Fin hl [] [])
  · have hl : lim b most = ([], [], (bnd b most).2.2) := by simp only [lim, h1, ne_eq, not_false_eq_true, if_true]
    repeat refine St @F44.eq_def ct42 ?_
    exact AWP.ret (Fin hl [] [])

def F29 : Fun
  | [.by b, .int .i64 most] => if b.length ≤ 549755813000 then some ([], .tup [.t (.by (lim b most).1), .t (.by (lim b most).2.1), .t (.int .i64 (lim b most).2.2)]) else none
  | _ => none

theorem ct29 : CT [(39, ⟨[false], treeG F39⟩), (42, ⟨[false, false], treeG F42⟩)] [0, 1, 4, 5, 6, 7, 8, 9] [] := ⟨(.cons c39.g (.cons c42.g (.nil _)))⟩

theorem c29 : ACon Try.prog 29 F29 := by
  refine aconc E_ok (rs := [.tmp 4 22, .tmp 5 22, .tmp 6 36]) Try.func29 rfl Try.ntmps29 (by kernel_rfl) rfl (by decide) F29 (np := 2) ?_ ?_
  · intro ts h; unfold F29; split <;> first | rfl | (simp at h; done)
  intro ts H r hF hwf
  unfold F29 at hF
  split at hF <;> try (cases hF; done)
  rename_i b most
  split at hF
  case isFalse => cases hF
  rename_i hc
  have hb := hc
  cases hF
  obtain ⟨hl1, hl2⟩ := lim_len b most
  have h1 : F39 [.by (lim b most).1] = some ([.by (lim b most).1], .own 0) := if_pos (by omega)
  have h2 : F39 [.by (lim b most).2.1] = some ([.by (lim b most).2.1], .own 0) := if_pos (by omega)
  repeat refine St (And.intro @F42.eq_def <| And.intro h1 <| h2) ct29 ?_
  exact AWP.ret (Fin trivial [0, 1] [])

theorem takebytes_c {b : List UInt8} (most : Int) (h : b.length ≤ 549755813000) : F29 [.by b, .int .i64 most] = some ([], .tup [.t (.by (lim b most).1), .t (.by (lim b most).2.1), .t (.int .i64 (lim b most).2.2)]) := if_pos h

def F31 : Fun
  | [.by b, .int .i64 many, .int .i64 most] => if b.length ≤ 549755812000 then some ([], .tup [.t (.sq 1 ((lst b many most).1.map .by)), .t (.by (lst b many most).2.1), .t (.int .i64 (lst b many most).2.2)]) else none
  | _ => none

theorem ct31 : CT [(39, ⟨[false], treeG F39⟩), (42, ⟨[false, false], treeG F42⟩), (44, ⟨[false, false], treeG F44⟩)] [0, 1, 2, 6, 7, 8, 9, 10, 11, 12, 13, 14, 15, 24, 26, 27, 28, 37] [] := ⟨(.cons c39.g (.cons c42.g (.cons c44.g (.nil _))))⟩

theorem c31 : ACon Try.prog 31 F31 := by
  refine aconc E_ok (rs := [.tmp 6 31, .tmp 7 22, .tmp 8 36]) Try.func31 rfl Try.ntmps31 (by kernel_rfl) rfl (by decide) F31 (np := 3) ?_ ?_
  · intro ts h; unfold F31; split <;> first | rfl | (simp at h; done)
  intro ts H r hF hwf
  unfold F31 at hF
  split at hF <;> try (cases hF; done)
  rename_i b many most
  split at hF
  case isFalse => cases hF
  rename_i hc
  have hb := hc
  cases hF
  have hmany := inK_i64 (hwf (.int .i64 many) (by simp))
  have hbl := bnd_len b many
  have hlt := bnd_lt b many hmany.2
  by_cases h1 : (bnd b many).2.2 = 0
  case neg =>
    have hl : lst b many most = ([], [], (bnd b many).2.2) := by simp only [lst, h1, ne_eq, not_false_eq_true, if_true]
    repeat refine St @F44.eq_def ct31 ?_
    exact AWP.ret (Fin (And.intro hl <| @List.map_nil.{0, 0}) [] [])
  have hl : lst b many most = tkF most (bnd b many).1 [] (bnd b many).2.1 := by simp only [lst, h1, ne_eq, not_true_eq_false, if_false]
  rw [hl]
  have hbd : F44 [.by b, .int .i64 many] = some ([], .tup [.t (.int .i64 ((bnd b many).1 : Nat)), .t (.by (bnd b many).2.1), .t (.int .i64 0)]) := by rw [← h1]; rfl
  generalize (bnd b many).2.1 = q at *
  generalize (bnd b many).1 = n at *
  repeat refine St hbd ct31 ?_
  refine AWP.weak (Wo 12 (.sq 1 [])) ?_
  refine AWP.loop (G := { p : Nat × List (List UInt8) × List UInt8 // p.1 ≤ n ∧ p.2.1.length = p.1 ∧ p.2.1.length + p.2.2.length ≤ q.length ∧ tkF most (n - p.1) p.2.1 p.2.2 = tkF most n [] q })
    (fun p => ⟨[(2, .t (.int .i64 most)), (10, .t (.by p.1.2.2)), (12, .own 0), (26, .t (.int .i64 n)), (27, .t (.int .i64 (p.1.1 : Int)))], [.sq 1 (p.1.2.1.map .by)]⟩)
    (fun p => n - p.1.1) ⟨(0, [], q), by simp⟩ (Wt trivial [2, 10, 12, 26, 27] [0]) ?_
  intro ⟨⟨k, acc, r⟩, hk, ha, hr, ht⟩
  dsimp only at hk ha hr ht ⊢
  by_cases hkn : (k : Int) < (n : Int)
  · have hs : n - k = (n - (k + 1)) + 1 := by omega
    rw [hs, tkF_succ] at ht
    obtain ⟨hlm1, hlm2⟩ := lim_len r most
    by_cases h3 : (lim r most).2.2 = 0
    · rw [if_neg (by simp [h3])] at ht
      have he := lim_eat h3
      have hcp : F39 [.by (lim r most).1] = some ([.by (lim r most).1], .own 0) := if_pos (by omega)
      have hal : (acc.map T.by).length ≤ 549755812000 := by simp; omega
      repeat refine St (And.intro @F42.eq_def <| And.intro hcp <| hal) ct31 ?_
      exact ⟨⟨(k + 1, acc ++ [(lim r most).1], (lim r most).2.1), by omega, by simp; omega, by simp; omega, ht⟩, (Wt @map_snoc [2, 10, 12, 26, 27] [3]), by simp only; omega⟩
    · rw [if_pos h3] at ht
      repeat refine St @F42.eq_def ct31 ?_
      exact AWP.ret (Fin (And.intro ht.symm <| @List.map_nil.{0, 0}) [] [])
  · obtain rfl : k = n := by omega
    rw [Nat.sub_self] at ht
    have hcp : F39 [.by r] = some ([.by r], .own 0) := if_pos (by omega)
    repeat refine St hcp ct31 ?_
    exact AWP.ret (Fin (And.intro ht.symm <| (And.intro @tkF.eq_1 <| @tkF.eq_2)) [0, 1] [])

theorem takelist_c {b : List UInt8} (many most : Int) (h : b.length ≤ 549755812000) : F31 [.by b, .int .i64 many, .int .i64 most] = some ([], .tup [.t (.sq 1 ((lst b many most).1.map .by)), .t (.by (lst b many most).2.1), .t (.int .i64 (lst b many most).2.2)]) := if_pos h

end Go.Fw

end

section
/- compact's answer: bytes laid. -/
namespace Go.Fw
open Go Go.Proofs
set_option linter.unusedVariables false
set_option linter.unusedSimpArgs false

def F15 : Fun
  | [.by b, .int .u64 n, .int .i64 m] => if b.length ≤ 549755813000 ∧ 0 ≤ m ∧ m ≤ 16 then some ([.by (b ++ le m.toNat n)], .own 0) else none
  | _ => none

theorem ct15 : CT [] [0, 1, 2, 6, 7, 8, 14] [] := ⟨GClOk.nil _⟩

theorem c15 : ACon Try.prog 15 F15 := by
  refine aconc E_ok (rs := [.tmp 6 22]) Try.func15 rfl Try.ntmps15 (by kernel_rfl) rfl (by decide) F15 (np := 3) ?_ ?_
  · intro ts h; unfold F15; split <;> first | rfl | (simp at h; done)
  intro ts H r hF hwf
  unfold F15 at hF
  split at hF <;> try (cases hF; done)
  rename_i b n m
  split at hF
  case isFalse => cases hF
  rename_i hc
  obtain ⟨hb, h0, h1⟩ := hc
  cases hF
  have hn := inK_u64 (hwf (.int .u64 n) (by simp))
  repeat refine St trivial ct15 ?_
  refine AWP.loop (G := { k : Nat // k ≤ m.toNat }) (fun k => ⟨[(1, .t (.int .u64 (shrB k.1 n))), (2, .t (.int .i64 m)), (7, .own 0), (8, .t (.int .i64 (k.1 : Int)))], [.by (b ++ le k.1 n)]⟩)
    (fun k => m.toNat - k.1) ⟨0, by omega⟩ (Wt (And.intro (And.intro @shrB.eq_1 <| @shrB.eq_2) <| (And.intro @le.eq_1 <| @le.eq_2)) [1, 2, 7, 8] [1]) ?_
  intro ⟨k, hk⟩
  dsimp only
  by_cases hlt : (k : Int) < m
  · have hl : (b ++ le k n).length ≤ 549755813100 := by simp [le_len]; omega
    have hr := shrB_range k n hn.1 hn.2
    have hq : IntKind.u64.wrap ((shrB k n).tdiv 256) = (shrB k n).fdiv 256 := by
      rw [tdiv_256 hr.1]
      have := shrB_range (k + 1) n hn.1 hn.2
      exact wrap_u64 this.1 this.2
    repeat refine St (And.intro hq <| @le_len) ct15 ?_
    exact ⟨⟨k + 1, by omega⟩, (Wt (And.intro (And.intro @shrB.eq_1 <| @shrB.eq_2) <| And.intro (And.intro @le.eq_1 <| @le.eq_2) <| @List.append_assoc.{0}) [1, 2, 7, 8] [2]), by simp only; omega⟩
  · obtain rfl : k = m.toNat := by omega
    repeat refine St trivial ct15 ?_
    exact AWP.ret (Fin trivial [] [0])

theorem put_c {b : List UInt8} (n : Int) (m : Int) (hb : b.length ≤ 549755813000) (h0 : 0 ≤ m) (h1 : m ≤ 16) : F15 [.by b, .int .u64 n, .int .i64 m] = some ([.by (b ++ le m.toNat n)], .own 0) := if_pos ⟨hb, h0, h1⟩

def F16 : Fun
  | [.by b, .int .u64 n] => if b.length ≤ 549755812000 then some ([.by (b ++ sizeB n)], .own 0) else none
  | _ => none

theorem ct16 : CT [(15, ⟨[false, false, false], treeG F15⟩)] [0, 1, 4, 5, 11, 18] [] := ⟨(.cons c15.g (.nil _))⟩

theorem c16 : ACon Try.prog 16 F16 := by
  refine aconc E_ok (rs := [.tmp 4 22]) Try.func16 rfl Try.ntmps16 (by kernel_rfl) rfl (by decide) F16 (np := 2) ?_ ?_
  · intro ts h; unfold F16; split <;> first | rfl | (simp at h; done)
  intro ts H r hF hwf
  unfold F16 at hF
  split at hF <;> try (cases hF; done)
  rename_i b n
  split at hF
  case isFalse => cases hF
  rename_i hc
  have hb := hc
  cases hF
  have hn := inK_u64 (hwf (.int .u64 n) (by simp))
  have h8 : ∀ c : Int, F15 [.by b, .int .u64 c, .int .i64 1] = some ([.by (b ++ le 1 c)], .own 0) := fun c => put_c c 1 (by omega) (by omega) (by omega)
  have hl : ∀ c : Int, (b ++ le 1 c).length ≤ 549755813000 := fun c => by simp [le_len]; omega
  have h16 : ∀ c d : Int, F15 [.by (b ++ le 1 c), .int .u64 d, .int .i64 2] = some ([.by (b ++ le 1 c ++ le 2 d)], .own 0) := fun c d => put_c d 2 (hl c) (by omega) (by omega)
  have h32 : ∀ c d : Int, F15 [.by (b ++ le 1 c), .int .u64 d, .int .i64 4] = some ([.by (b ++ le 1 c ++ le 4 d)], .own 0) := fun c d => put_c d 4 (hl c) (by omega) (by omega)
  have h64 : ∀ c d : Int, F15 [.by (b ++ le 1 c), .int .u64 d, .int .i64 8] = some ([.by (b ++ le 1 c ++ le 8 d)], .own 0) := fun c d => put_c d 8 (hl c) (by omega) (by omega)
  by_cases h1 : n < 253
  · repeat refine St h8 ct16 ?_
    exact AWP.ret (Fin (And.intro @sizeB.eq_def <| h1) [] [0])
  by_cases h2 : n < 65536
  · repeat refine St (And.intro h8 <| h16) ct16 ?_
    exact AWP.ret (Fin (And.intro @sizeB.eq_def <| And.intro h1 <| And.intro h2 <| @List.append_assoc.{0}) [] [1])
  by_cases h3 : n < 4294967296
  · repeat refine St (And.intro h8 <| h32) ct16 ?_
    exact AWP.ret (Fin (And.intro @sizeB.eq_def <| And.intro h1 <| And.intro h2 <| And.intro h3 <| @List.append_assoc.{0}) [] [1])
  repeat refine St (And.intro h8 <| h64) ct16 ?_
  exact AWP.ret (Fin (And.intro @sizeB.eq_def <| And.intro h1 <| And.intro h2 <| And.intro h3 <| @List.append_assoc.{0}) [] [1])

def F21 : Fun
  | [.by b, .by x] => if b.length + x.length ≤ 549755800000 then some ([.by (b ++ sizeB x.length ++ x)], .own 0) else none
  | _ => none

theorem ct21 : CT [(16, ⟨[false, false], treeG F16⟩)] [0, 1, 4, 5] [] := ⟨(.cons c16.g (.nil _))⟩

theorem c21 : ACon Try.prog 21 F21 := by
  refine aconc E_ok (rs := [.tmp 4 22]) Try.func21 rfl Try.ntmps21 (by kernel_rfl) rfl (by decide) F21 (np := 2) ?_ ?_
  · intro ts h; unfold F21; split <;> first | rfl | (simp at h; done)
  intro ts H r hF hwf
  unfold F21 at hF
  split at hF <;> try (cases hF; done)
  rename_i b x
  split at hF
  case isFalse => cases hF
  rename_i hc
  have hb := hc
  cases hF
  have hs := sizeB_len (x.length : Int)
  have h : F16 [.by b, .int .u64 (x.length : Int)] = some ([.by (b ++ sizeB x.length)], .own 0) := if_pos (by omega)
  have hl : (b ++ sizeB x.length).length ≤ 549755812000 := by simp; omega
  repeat refine St h ct21 ?_
  exact AWP.ret (Fin trivial [] [1])

def F20 : Fun
  | [.by b, .sq 1 xs] => match asBys xs with
    | some l => if b.length + (flat l).length ≤ 549755700000 then some ([.by (b ++ sizeB l.length ++ flat l)], .own 0) else none
    | none => none
  | _ => none

theorem ct20 : CT [(16, ⟨[false, false], treeG F16⟩), (21, ⟨[false, false], treeG F21⟩)] [0, 1, 4, 5, 6, 15] [] := ⟨(.cons c16.g (.cons c21.g (.nil _)))⟩

theorem c20 : ACon Try.prog 20 F20 := by
  refine aconc E_ok (rs := [.tmp 4 22]) Try.func20 rfl Try.ntmps20 (by kernel_rfl) rfl (by decide) F20 (np := 2) ?_ ?_
  · intro ts h; unfold F20; split <;> first | rfl | (simp at h; done)
  intro ts H r hF hwf
  unfold F20 at hF
  split at hF <;> try (cases hF; done)
  rename_i b xs
  split at hF <;> try (cases hF; done)
  rename_i l hl
  split at hF
  case isFalse => cases hF
  rename_i hc
  have hb := hc
  cases hF
  obtain rfl := asBys_inv hl
  have hlen := len_le_flat l
  have hs := sizeB_len (l.length : Int)
  have h : F16 [.by b, .int .u64 (l.length : Int)] = some ([.by (b ++ sizeB l.length)], .own 0) := if_pos (by omega)
  repeat refine St h ct20 ?_
  refine AWP.loop (G := { k : Nat // k ≤ l.length }) (fun k => ⟨[(1, .t (.sq 1 (l.map .by))), (5, .own 0), (6, .t (.int .i64 (k.1 : Int)))], [.by (b ++ sizeB l.length ++ flat (l.take k.1))]⟩)
    (fun k => l.length - k.1) ⟨0, by omega⟩ (Wt (And.intro @List.take_zero.{0} <| (And.intro @flat.eq_1 <| @flat.eq_2)) [1, 5, 6] [0]) ?_
  intro ⟨k, hk⟩
  dsimp only
  by_cases hlt : (k : Int) < (l.length : Int)
  · have hlt' : k < l.length := by omega
    have hget := map_getD l k hlt'
    have hfl := flat_get_len l k hlt'
    have hft := flat_take l k hlt'
    have h2 : F21 [.by (b ++ sizeB l.length ++ flat (l.take k)), .by (l.getD k [])] = some ([.by (b ++ sizeB l.length ++ flat (l.take k) ++ sizeB (l.getD k []).length ++ l.getD k [])], .own 0) := if_pos (by simp only [List.length_append]; omega)
    repeat refine St (And.intro hlt' <| And.intro hget <| h2) ct20 ?_
    exact ⟨⟨k + 1, by omega⟩, (Wt (And.intro hft <| @List.append_assoc.{0}) [1, 5, 6] [1]), by simp only; omega⟩
  · obtain rfl : k = l.length := by omega
    repeat refine St trivial ct20 ?_
    exact AWP.ret (Fin (@List.take_length.{0}) [] [0])

end Go.Fw

end

section
/- compact's answer: bytes taken apart. -/
namespace Go.Fw
open Go Go.Proofs
set_option linter.unusedVariables false
set_option linter.unusedSimpArgs false

def F23 : Fun
  | [.by b, .int .i64 n] => if b.length ≤ 549755813000 then some ([], .tup [.t (.by (spA b n)), .t (.by (spB b n)), .t (.int .i64 (spE b n))]) else none
  | _ => none

theorem ct23 : CT [] [0, 1, 4, 5, 6, 7, 8, 10, 14] [] := ⟨GClOk.nil _⟩

theorem c23 : ACon Try.prog 23 F23 := by
  refine aconc E_ok (rs := [.tmp 4 22, .tmp 5 22, .tmp 6 36]) Try.func23 rfl Try.ntmps23 (by kernel_rfl) rfl (by decide) F23 (np := 2) ?_ ?_
  · intro ts h; unfold F23; split <;> first | rfl | (simp at h; done)
  intro ts H r hF hwf
  unfold F23 at hF
  split at hF <;> try (cases hF; done)
  rename_i b n
  split at hF
  case isFalse => cases hF
  rename_i hc
  have hb := hc
  cases hF
  by_cases h1 : n < 0
  · repeat refine St trivial ct23 ?_
    exact AWP.ret (Fin (And.intro @spA.eq_def <| And.intro @spB.eq_def <| And.intro @spE.eq_def <| h1) [] [])
  by_cases h2 : (b.length : Int) < n
  · repeat refine St trivial ct23 ?_
    exact AWP.ret (Fin (And.intro @spA.eq_def <| And.intro @spB.eq_def <| And.intro @spE.eq_def <| And.intro h1 <| h2) [] [])
  repeat refine St trivial ct23 ?_
  exact AWP.ret (Fin (And.intro @spA.eq_def <| And.intro @spB.eq_def <| And.intro @spE.eq_def <| And.intro h1 <| h2) [1, 3] [])

def F25 : Fun
  | [.by b, .int .i64 n] => if b.length ≤ 549755813000 ∧ n ≤ 8 then some ([], .tup [.t (.int .u64 (num (spA b n))), .t (.by (spB b n)), .t (.int .i64 (spE b n))]) else none
  | _ => none

theorem ct25 : CT [(23, ⟨[false, false], treeG F23⟩)] [0, 1, 4, 5, 6, 7, 8, 9, 10, 11, 23] [] := ⟨(.cons c23.g (.nil _))⟩

theorem c25 : ACon Try.prog 25 F25 := by
  refine aconc E_ok (rs := [.tmp 4 23, .tmp 5 22, .tmp 6 36]) Try.func25 rfl Try.ntmps25 (by kernel_rfl) rfl (by decide) F25 (np := 2) ?_ ?_
  · intro ts h; unfold F25; split <;> first | rfl | (simp at h; done)
  intro ts H r hF hwf
  unfold F25 at hF
  split at hF <;> try (cases hF; done)
  rename_i b n
  split at hF
  case isFalse => cases hF
  rename_i hc
  obtain ⟨hb, hn⟩ := hc
  cases hF
  have h8 := spA_le b n 8 hn
  have ht : F23 [.by b, .int .i64 n] = some ([], .tup [.t (.by (spA b n)), .t (.by (spB b n)), .t (.int .i64 (spE b n))]) := if_pos hb
  generalize hx : spA b n = x at *
  repeat refine St ht ct25 ?_
  have hz : num (x.drop x.length) = 0 := by simp [num]
  refine AWP.loop (G := { k : Nat // k ≤ x.length }) (fun k => ⟨[(7, .t (.by x)), (8, .t (.by (spB b n))), (9, .t (.int .i64 (spE b n))), (10, .t (.int .u64 (num (x.drop k.1)))), (11, .t (.int .i64 ((k.1 : Int) - 1)))], []⟩)
    (fun k => k.1) ⟨x.length, by omega⟩ (Wt (And.intro hz <| (And.intro @num.eq_1 <| @num.eq_2)) [7, 8, 9, 10, 11] []) ?_
  intro ⟨k, hk⟩
  dsimp only
  by_cases hlt : 0 ≤ (k : Int) - 1
  · obtain ⟨j, rfl⟩ : ∃ j, k = j + 1 := ⟨k - 1, by omega⟩
    have hj : (((j + 1 : Nat) : Int) - 1) = (j : Int) := by omega
    have hd := num_drop x j (by omega)
    have h88 := num_lt8 (x.drop j) (by simp; omega)
    have hc := (x.getD j 0).toNat_lt
    have hw1 : IntKind.u64.wrap ((num (x.drop (j + 1)) : Int) * 256) = (num (x.drop (j + 1)) : Int) * 256 := wrap_u64 (by omega) (by omega)
    have hw2 : IntKind.u64.wrap ((x.getD j 0).toNat : Int) = ((x.getD j 0).toNat : Int) := wrap_u64 (by omega) (by omega)
    have hw3 : IntKind.u64.wrap ((num (x.drop (j + 1)) : Int) * 256 + ((x.getD j 0).toNat : Int)) = (num (x.drop j) : Int) := by rw [wrap_u64 (by omega) (by omega)]; omega
    have hjx : j < x.length := by omega
    repeat refine St (And.intro hj <| And.intro hw1 <| And.intro hw2 <| And.intro hw3 <| hjx) ct25 ?_
    exact ⟨⟨j, by omega⟩, (Wt trivial [7, 8, 9, 10, 11] []), by simp only; omega⟩
  · obtain rfl : k = 0 := by omega
    repeat refine St trivial ct25 ?_
    exact AWP.ret (Fin (@List.drop_zero.{0}) [] [])

theorem number_c (l : List UInt8) (n : Int) (h0 : l.length ≤ 549755813000) (h : n ≤ 8) : F25 [.by l, .int .i64 n] = some ([], .tup [.t (.int .u64 (num (spA l n))), .t (.by (spB l n)), .t (.int .i64 (spE l n))]) := if_pos ⟨h0, h⟩

def F28 : Fun
  | [.by b] => if b.length ≤ 549755813000 then some ([], .tup [.t (.int .u64 ((sz b).1 : Nat)), .t (.by (sz b).2.1), .t (.int .i64 (sz b).2.2)]) else none
  | _ => none

theorem ct28 : CT [(25, ⟨[false, false], treeG F25⟩)] [0, 2, 3, 4, 5, 6, 7, 8, 9, 21, 26, 28, 42] [] := ⟨(.cons c25.g (.nil _))⟩

set_option maxHeartbeats 2000000 in
theorem c28 : ACon Try.prog 28 F28 := by
  refine aconc E_ok (rs := [.tmp 2 23, .tmp 3 22, .tmp 4 36]) Try.func28 rfl Try.ntmps28 (by kernel_rfl) rfl (by decide) F28 (np := 1) ?_ ?_
  · intro ts h; unfold F28; split <;> first | rfl | (simp at h; done)
  intro ts H r hF hwf
  unfold F28 at hF
  split at hF <;> try (cases hF; done)
  rename_i b
  split at hF
  case isFalse => cases hF
  rename_i hc
  have hb := hc
  cases hF
  have hl := spB_len b 1
  have r1 := number_c b 1 (by omega) (by omega)
  have r2 := number_c (spB b 1) 2 (by omega) (by omega)
  have r4 := number_c (spB b 1) 4 (by omega) (by omega)
  have r8 := number_c (spB b 1) 8 (by omega) (by omega)
  have hsz := sz.eq_1 b
  have hbad := @sp_bad b 1
  have hlt := num_lt1 (spA b 1) (spA_le b 1 1 (by omega))
  have b2 := @sp_bad (spB b 1) 2
  have b4 := @sp_bad (spB b 1) 4
  have b8 := @sp_bad (spB b 1) 8
  generalize sz b = R at *
  generalize spB b 1 = y at *
  by_cases h1 : spE b 1 = 0
  case neg =>
    simp only [h1, ne_eq, not_false_eq_true, if_true] at hsz
    obtain ⟨e1, e2⟩ := hbad h1
    subst e2
    rw [e1] at r1
    have h1' : (spE b 1 != 0) = true := by simpa using h1
    repeat refine St (And.intro r1 <| h1') ct28 ?_
    exact AWP.ret (Fin (And.intro hsz <| (And.intro @num.eq_1 <| @num.eq_2)) [] [])
  simp only [h1, ne_eq, not_true_eq_false, if_false] at hsz
  rw [h1] at r1
  obtain ⟨x, hx⟩ : ∃ x : Nat, num (spA b 1) = x := ⟨_, rfl⟩
  rw [hx] at hsz r1 hlt
  by_cases h253 : x = 253
  case pos =>
    subst h253
    simp only [Nat.reduceEqDiff, if_true, if_false] at hsz
    unfold rdR at hsz
    by_cases k1 : spE y 2 = 0
    case neg =>
      simp only [k1, ne_eq, not_false_eq_true, if_true] at hsz
      obtain ⟨e1, e2⟩ := b2 k1
      rw [e1, e2] at r2
      have k1' : (spE y 2 == 0) = false := by simpa using k1
      repeat refine St (And.intro r1 <| And.intro r2 <| k1') ct28 ?_
      exact AWP.ret (Fin (And.intro hsz <| (And.intro @num.eq_1 <| @num.eq_2)) [] [])
    simp only [k1, ne_eq, not_true_eq_false, if_false] at hsz
    rw [k1] at r2
    split at hsz
    · repeat refine St (And.intro r1 <| r2) ct28 ?_
      exact AWP.ret (Fin hsz [] [])
    · repeat refine St (And.intro r1 <| r2) ct28 ?_
      exact AWP.ret (Fin hsz [] [])
  by_cases h254 : x = 254
  case pos =>
    subst h254
    simp only [Nat.reduceEqDiff, if_true, if_false] at hsz
    unfold rdR at hsz
    by_cases k1 : spE y 4 = 0
    case neg =>
      simp only [k1, ne_eq, not_false_eq_true, if_true] at hsz
      obtain ⟨e1, e2⟩ := b4 k1
      rw [e1, e2] at r4
      have k1' : (spE y 4 == 0) = false := by simpa using k1
      repeat refine St (And.intro r1 <| And.intro r4 <| k1') ct28 ?_
      exact AWP.ret (Fin (And.intro hsz <| (And.intro @num.eq_1 <| @num.eq_2)) [] [])
    simp only [k1, ne_eq, not_true_eq_false, if_false] at hsz
    rw [k1] at r4
    split at hsz
    · repeat refine St (And.intro r1 <| r4) ct28 ?_
      exact AWP.ret (Fin hsz [] [])
    · repeat refine St (And.intro r1 <| r4) ct28 ?_
      exact AWP.ret (Fin hsz [] [])
  by_cases h255 : x = 255
  case pos =>
    subst h255
    simp only [Nat.reduceEqDiff, if_true, if_false] at hsz
    unfold rdR at hsz
    by_cases k1 : spE y 8 = 0
    case neg =>
      simp only [k1, ne_eq, not_false_eq_true, if_true] at hsz
      obtain ⟨e1, e2⟩ := b8 k1
      rw [e1, e2] at r8
      have k1' : (spE y 8 == 0) = false := by simpa using k1
      repeat refine St (And.intro r1 <| And.intro r8 <| k1') ct28 ?_
      exact AWP.ret (Fin (And.intro hsz <| (And.intro @num.eq_1 <| @num.eq_2)) [] [])
    simp only [k1, ne_eq, not_true_eq_false, if_false] at hsz
    rw [k1] at r8
    split at hsz
    · repeat refine St (And.intro r1 <| r8) ct28 ?_
      exact AWP.ret (Fin hsz [] [])
    · repeat refine St (And.intro r1 <| r8) ct28 ?_
      exact AWP.ret (Fin hsz [] [])
  simp only [h253, h254, h255, if_false] at hsz
  repeat refine St r1 ct28 ?_
  exact AWP.ret (Fin hsz [] [])

def F43 : Fun
  | [.int .u64 n, .int .i64 most] => some ([], .t (.bool (decide (most < 0 ∨ most < n))))
  | _ => none

theorem ct43 : CT [] [0, 1, 4] [] := ⟨GClOk.nil _⟩

theorem c43 : ACon Try.prog 43 F43 := by
  refine aconc E_ok (rs := [.tmp 4 4]) Try.func43 rfl Try.ntmps43 (by kernel_rfl) rfl (by decide) F43 (np := 2) ?_ ?_
  · intro ts h; unfold F43; split <;> first | rfl | (simp at h; done)
  intro ts H r hF hwf
  unfold F43 at hF
  split at hF <;> try (cases hF; done)
  rename_i n most
  cases hF
  have hm := inK_i64 (hwf (.int .i64 most) (by simp))
  by_cases h1 : most < 0
  · repeat refine St h1 ct43 ?_
    exact AWP.ret (Fin h1 [] [])
  · have hw : IntKind.u64.wrap most = most := wrap_u64 (by omega) (by omega)
    repeat refine St (And.intro h1 <| hw) ct43 ?_
    exact AWP.ret (Fin h1 [] [])

def F30 : Fun
  | [.by b, .int .i64 most] => if b.length ≤ 549755813000 then some ([], .tup [.t (.by (lim b most).1), .t (.by (lim b most).2.1), .t (.int .i64 (lim b most).2.2)]) else none
  | _ => none

theorem ct30 : CT [(23, ⟨[false, false], treeG F23⟩), (28, ⟨[false], treeG F28⟩), (43, ⟨[false, false], treeG F43⟩)] [0, 1, 4, 5, 6, 7, 8, 9, 17, 21, 26] [] := ⟨(.cons c23.g (.cons c28.g (.cons c43.g (.nil _))))⟩

theorem c30 : ACon Try.prog 30 F30 := by
  refine aconc E_ok (rs := [.tmp 4 22, .tmp 5 22, .tmp 6 36]) Try.func30 rfl Try.ntmps30 (by kernel_rfl) rfl (by decide) F30 (np := 2) ?_ ?_
  · intro ts h; unfold F30; split <;> first | rfl | (simp at h; done)
  intro ts H r hF hwf
  unfold F30 at hF
  split at hF <;> try (cases hF; done)
  rename_i b most
  split at hF
  case isFalse => cases hF
  rename_i hc
  have hb := hc
  cases hF
  have hm := inK_i64 (hwf (.int .i64 most) (by simp))
  have hsl := sz_len b
  have hs : F28 [.by b] = some ([], .tup [.t (.int .u64 ((sz b).1 : Nat)), .t (.by (sz b).2.1), .t (.int .i64 (sz b).2.2)]) := if_pos hb
  have hl := lim.eq_1 b most
  unfold bnd at hl
  generalize lim b most = R at *
  generalize sz b = Z at *
  obtain ⟨n, q, e⟩ := Z
  dsimp only at hsl hs hl
  by_cases h1 : e = 0
  case neg =>
    simp only [h1, ne_eq, not_false_eq_true, if_true] at hl
    repeat refine St (And.intro hs <| h1) ct30 ?_
    exact AWP.ret (Fin hl [] [])
  subst h1
  simp only [ne_eq, not_true_eq_false, if_false] at hl
  by_cases h2 : most < 0 ∨ most < (n : Int)
  · simp only [h2, if_true, show ¬ (4 : Int) = 0 by omega, not_false_eq_true] at hl
    repeat refine St (And.intro hs <| And.intro @F43.eq_def <| h2) ct30 ?_
    exact AWP.ret (Fin hl [] [])
  simp only [h2, if_false, not_true_eq_false] at hl
  by_cases h3 : (q.length : Int) < (n : Int)
  · repeat refine St (And.intro hs <| And.intro @F43.eq_def <| And.intro h2 <| h3) ct30 ?_
    exact AWP.ret (Fin (And.intro hl <| And.intro @spA.eq_def <| And.intro @spB.eq_def <| And.intro @spE.eq_def <| And.intro h3 <| (show ¬ (n : Int) < 0 by omega)) [] [])
  have ht : F23 [.by q, .int .i64 (n : Int)] = some ([], .tup [.t (.by (spA q n)), .t (.by (spB q n)), .t (.int .i64 (spE q n))]) := if_pos (by omega)
  repeat refine St (And.intro hs <| And.intro @F43.eq_def <| And.intro h2 <| And.intro h3 <| ht) ct30 ?_
  exact AWP.ret (Fin hl [] [])

def F32 : Fun
  | [.by b, .int .i64 many, .int .i64 most] => if b.length ≤ 549755812000 then some ([], .tup [.t (.sq 1 ((lst b many most).1.map .by)), .t (.by (lst b many most).2.1), .t (.int .i64 (lst b many most).2.2)]) else none
  | _ => none

theorem ct32 : CT [(28, ⟨[false], treeG F28⟩), (30, ⟨[false, false], treeG F30⟩), (43, ⟨[false, false], treeG F43⟩)] [0, 1, 2, 6, 7, 8, 9, 10, 11, 12, 13, 14, 15, 16, 24, 28, 32, 43] [] := ⟨(.cons c28.g (.cons c30.g (.cons c43.g (.nil _))))⟩

theorem c32 : ACon Try.prog 32 F32 := by
  refine aconc E_ok (rs := [.tmp 6 31, .tmp 7 22, .tmp 8 36]) Try.func32 rfl Try.ntmps32 (by kernel_rfl) rfl (by decide) F32 (np := 3) ?_ ?_
  · intro ts h; unfold F32; split <;> first | rfl | (simp at h; done)
  intro ts H r hF hwf
  unfold F32 at hF
  split at hF <;> try (cases hF; done)
  rename_i b many most
  split at hF
  case isFalse => cases hF
  rename_i hc
  have hb := hc
  cases hF
  have hm := inK_i64 (hwf (.int .i64 many) (by simp))
  have hsl := sz_len b
  have hs : F28 [.by b] = some ([], .tup [.t (.int .u64 ((sz b).1 : Nat)), .t (.by (sz b).2.1), .t (.int .i64 (sz b).2.2)]) := if_pos (by omega)
  have hl := lst.eq_1 b many most
  unfold bnd at hl
  generalize lst b many most = R at *
  generalize sz b = Z at *
  obtain ⟨n, q, e⟩ := Z
  dsimp only at hsl hs hl
  by_cases h1 : e = 0
  case neg =>
    simp only [h1, ne_eq, not_false_eq_true, if_true] at hl
    repeat refine St (And.intro hs <| h1) ct32 ?_
    exact AWP.ret (Fin (And.intro hl <| @List.map_nil.{0, 0}) [] [])
  subst h1
  simp only [ne_eq, not_true_eq_false, if_false] at hl
  by_cases h2 : many < 0 ∨ many < (n : Int)
  · simp only [h2, if_true, show ¬ (4 : Int) = 0 by omega, not_false_eq_true] at hl
    repeat refine St (And.intro hs <| And.intro @F43.eq_def <| h2) ct32 ?_
    exact AWP.ret (Fin (And.intro hl <| @List.map_nil.{0, 0}) [] [])
  simp only [h2, if_false, not_true_eq_false] at hl
  subst hl
  repeat refine St (And.intro hs <| And.intro @F43.eq_def <| h2) ct32 ?_
  refine AWP.loop (G := { p : Nat × List (List UInt8) × List UInt8 // p.1 ≤ n ∧ p.2.1.length = p.1 ∧ p.2.1.length + p.2.2.length ≤ q.length ∧ tkF most (n - p.1) p.2.1 p.2.2 = tkF most n [] q })
    (fun p => ⟨[(2, .t (.int .i64 most)), (9, .t (.int .u64 n)), (10, .t (.by p.1.2.2)), (12, .own 0), (13, .t (.int .u64 (p.1.1 : Int)))], [.sq 1 (p.1.2.1.map .by)]⟩)
    (fun p => n - p.1.1) ⟨(0, [], q), by simp⟩ (Wt trivial [2, 9, 10, 12, 13] [0]) ?_
  intro ⟨⟨k, acc, r⟩, hk, ha, hr, ht⟩
  dsimp only at hk ha hr ht ⊢
  by_cases hkn : (k : Int) < (n : Int)
  · have hs : n - k = (n - (k + 1)) + 1 := by omega
    rw [hs, tkF_succ] at ht
    obtain ⟨hlm1, hlm2⟩ := lim_len r most
    have htb : F30 [.by r, .int .i64 most] = some ([], .tup [.t (.by (lim r most).1), .t (.by (lim r most).2.1), .t (.int .i64 (lim r most).2.2)]) := if_pos (by omega)
    by_cases h3 : (lim r most).2.2 = 0
    · rw [if_neg (by simp [h3])] at ht
      have he := lim_eat h3
      have hal : (acc.map T.by).length ≤ 549755812000 := by simp; omega
      repeat refine St (And.intro htb <| hal) ct32 ?_
      exact ⟨⟨(k + 1, acc ++ [(lim r most).1], (lim r most).2.1), by omega, by simp; omega, by simp; omega, ht⟩, (Wt @map_snoc [2, 9, 10, 12, 13] [2]), by simp only; omega⟩
    · rw [if_pos h3] at ht
      repeat refine St htb ct32 ?_
      exact AWP.ret (Fin (And.intro ht.symm <| @List.map_nil.{0, 0}) [] [])
  · obtain rfl : k = n := by omega
    rw [Nat.sub_self] at ht
    repeat refine St trivial ct32 ?_
    exact AWP.ret (Fin (And.intro ht.symm <| (And.intro @tkF.eq_1 <| @tkF.eq_2)) [0] [])

def F33 : Fun
  | [.sq 1 xs, .sq 1 ys] => match asBys xs, asBys ys with
    | some l, some k => some ([], .t (.bool (l == k)))
    | _, _ => none
  | _ => none

theorem ct33 : CT [] [0, 1, 4, 5, 10, 14, 27] [(6, [⟨0, [0], [], []⟩, ⟨0, [5], [], []⟩, ⟨1, [17, 18], [], []⟩, ⟨1, [19], [2], []⟩, ⟨1, [20], [2, 3], []⟩, ⟨0, [1], [], []⟩, ⟨0, [5], [], []⟩, ⟨1, [22, 23], [], []⟩, ⟨1, [24], [7], []⟩, ⟨1, [25], [7, 8], []⟩, ⟨0, [21, 26], [2, 3, 4, 7, 8, 9], []⟩])] := ⟨GClOk.nil _⟩

theorem c33 : ACon Try.prog 33 F33 := by
  refine aconc E_ok (rs := [.tmp 4 4]) Try.func33 rfl Try.ntmps33 (by kernel_rfl) rfl (by decide) F33 (np := 2) ?_ ?_
  · intro ts h; unfold F33; split <;> first | rfl | (simp at h; done)
  intro ts H r hF hwf
  unfold F33 at hF
  split at hF <;> try (cases hF; done)
  rename_i xs ys
  split at hF <;> try (cases hF; done)
  rename_i l m hl hm
  cases hF
  obtain rfl := asBys_inv hl
  obtain rfl := asBys_inv hm
  have hg : l.length ≤ maxLen := wf_rows (hwf (.sq 1 (l.map .by)) (by simp))
  unfold maxLen at hg
  by_cases hlen : l.length = m.length
  case neg =>
    have hb : ((l.length : Int) != (m.length : Int)) = true := by simp; omega
    have hne : (l == m) = false := by simp; intro h; exact hlen (by rw [h])
    repeat refine St hb ct33 ?_
    exact AWP.ret (Fin hne [] [])
  have hb : ((l.length : Int) != (m.length : Int)) = false := by simp; omega
  repeat refine St hb ct33 ?_
  refine AWP.loop (G := { k : Nat // k ≤ l.length ∧ l.take k = m.take k }) (fun k => ⟨[(0, .t (.sq 1 (l.map .by))), (1, .t (.sq 1 (m.map .by))), (5, .t (.int .i64 (k.1 : Int)))], []⟩)
    (fun k => l.length - k.1) ⟨0, by simp⟩ (Wt trivial [0, 1, 5] []) ?_
  intro ⟨k, hk, heq⟩
  dsimp only
  by_cases hlt : (k : Int) < (l.length : Int)
  · have hlt' : k < l.length := by omega
    have hlt2 : k < m.length := by omega
    have hget := map_getD l k hlt'
    have hget2 := map_getD m k hlt2
    by_cases he : l.getD k [] = m.getD k []
    · have hbe : (m.getD k [] == m.getD k []) = true := beq_self_eq_true _
      rw [he] at hget
      repeat refine St (And.intro hlt' <| And.intro hlt2 <| And.intro hget <| And.intro hget2 <| hbe) ct33 ?_
      exact ⟨⟨k + 1, by omega, by rw [take_getD l k hlt', take_getD m k hlt2, heq, he]⟩, (Wt trivial [0, 1, 5] []), by simp only; omega⟩
    · have hbe : (l.getD k [] == m.getD k []) = false := by simpa using he
      have hne : (l == m) = false := by simp only [beq_eq_false_iff_ne]; intro h; exact he (by rw [h])
      repeat refine St (And.intro hlt' <| And.intro hlt2 <| And.intro hget <| And.intro hget2 <| hbe) ct33 ?_
      exact AWP.ret (Fin hne [] [])
  · obtain rfl : k = l.length := by omega
    have hlm : l = m := by rw [List.take_length, hlen, List.take_length] at heq; exact heq
    have hne : (l == m) = true := by rw [hlm]; exact beq_self_eq_true _
    repeat refine St trivial ct33 ?_
    exact AWP.ret (Fin hne [] [])

end Go.Fw

end

section
/- Chapter 1: the live question, small lists. -/
namespace Go.Fw
open Go Go.Proofs
set_option linter.unusedVariables false
set_option linter.unusedSimpArgs false

def F10 : Fun
  | [] => some ([], .t (.bool true))
  | _ => none

theorem ct10 : CT [(14, ⟨[false, false], treeG F14⟩), (27, ⟨[false], treeG F27⟩)] [0, 1, 2, 3, 4] [] := ⟨(.cons c14.g (.cons c27.g (.nil _)))⟩

theorem c10 : ACon Try.prog 10 F10 := by
  refine aconc E_ok (rs := [.tmp 0 4]) Try.func10 rfl Try.ntmps10 (by kernel_rfl) rfl (by decide) F10 (np := 0) ?_ ?_
  · intro ts h; unfold F10; split <;> first | rfl | (simp at h; done)
  intro ts H r hF hwf
  unfold F10 at hF
  split at hF <;> try (cases hF; done)
  cases hF
  have h1 : F27 [.by [UInt8.ofNat 253, UInt8.ofNat 253, UInt8.ofNat 0, UInt8.ofNat 7]] = some ([], .tup [.t (.int .u64 253), .t (.by [7]), .t (.int .i64 0)]) := rfl
  have h2 : F14 [.by [UInt8.ofNat 1], .int .u64 65536] = some ([.by [1, 254, 0, 0, 1, 0]], .own 0) := rfl
  have e7 : (((UInt8.toNat 7 : Nat) : Int) == 7) = true := rfl
  repeat refine St (And.intro h1 <| And.intro h2 <| And.intro @u8.eq_def <| e7) ct10 ?_
  exact AWP.ret (Fin trivial [] [])

def F17 : Fun
  | [.sq 1 xs] => match asBys xs with
    | some l => some ([], .t (.bool (smallB l)))
    | none => none
  | _ => none

theorem ct17 : CT [] [0, 2, 3, 7, 19] [] := ⟨GClOk.nil _⟩

theorem c17 : ACon Try.prog 17 F17 := by
  refine aconc E_ok (rs := [.tmp 2 4]) Try.func17 rfl Try.ntmps17 (by kernel_rfl) rfl (by decide) F17 (np := 1) ?_ ?_
  · intro ts h; unfold F17; split <;> first | rfl | (simp at h; done)
  intro ts H r hF hwf
  unfold F17 at hF
  split at hF <;> try (cases hF; done)
  rename_i xs
  split at hF <;> try (cases hF; done)
  rename_i l hl
  cases hF
  obtain rfl := asBys_inv hl
  have hg : l.length ≤ maxLen := wf_rows (hwf _ (by simp))
  unfold maxLen at hg
  repeat refine St trivial ct17 ?_
  refine AWP.loop (G := { k : Nat // k ≤ l.length ∧ k ≤ 40 ∧ ∀ x ∈ l.take k, x.length ≤ 300 }) (fun k => ⟨[(0, .t (.sq 1 (l.map .by))), (3, .t (.int .i64 (k.1 : Int)))], []⟩)
    (fun k => l.length - k.1) ⟨0, by simp⟩ (Wt trivial [0, 3] []) ?_
  intro ⟨k, hk, hk40, hall⟩
  dsimp only
  by_cases hlt : (k : Int) < (l.length : Int)
  · have hlt' : k < l.length := by omega
    have hget := map_getD l k hlt'
    have hmem : l.getD k [] ∈ l := by simp [hlt']
    by_cases h40 : k = 40
    · have hb : ((k : Int) == 40) = true := by rw [h40]; rfl
      have hs : smallB l = false := by simp [smallB]; omega
      repeat refine St hb ct17 ?_
      exact AWP.ret (Fin hs [] [])
    · have hb : ((k : Int) == 40) = false := by simp; omega
      by_cases h300 : (300 : Int) < ((l.getD k []).length : Int)
      · have hs : smallB l = false := by
          simp only [smallB, Bool.and_eq_false_iff]; right; rw [List.all_eq_false]; exact ⟨_, hmem, by simp only [decide_eq_true_eq]; omega⟩
        repeat refine St (And.intro hb <| And.intro hlt' <| And.intro hget <| h300) ct17 ?_
        exact AWP.ret (Fin hs [] [])
      · have h3 : (l.getD k []).length ≤ 300 := by omega
        have hnext : ∀ x ∈ l.take (k + 1), x.length ≤ 300 := by
          rw [take_getD l k hlt']
          intro x hx
          rcases List.mem_append.1 hx with hx | hx
          · exact hall x hx
          · rw [List.mem_singleton.1 hx]; exact h3
        repeat refine St (And.intro hb <| And.intro hlt' <| And.intro hget <| h300) ct17 ?_
        exact ⟨⟨k + 1, by omega, by omega, hnext⟩, (Wt trivial [0, 3] []), by simp only; omega⟩
  · obtain rfl : k = l.length := by omega
    have hs : smallB l = true := by
      simp only [smallB, Bool.and_eq_true, decide_eq_true_eq, List.all_eq_true]; exact ⟨hk40, fun x hx => by rw [List.take_length] at hall; exact hall x hx⟩
    repeat refine St trivial ct17 ?_
    exact AWP.ret (Fin hs [] [])

theorem small_all {l : List (List UInt8)} (h : smallB l = true) : l.length ≤ 40 ∧ (∀ x ∈ l, (x.length : Int) ≤ 300) := by
  simp only [smallB, Bool.and_eq_true, decide_eq_true_eq, List.all_eq_true] at h
  exact ⟨h.1, fun x hx => by have := h.2 x hx; omega⟩
theorem le_len8 (n : Int) : (le 8 n).length = 8 := le_len 8 n
theorem num_le8 (n : Int) (h0 : 0 ≤ n) (h1 : n ≤ 18446744073709551615) : (num (le 8 n) : Int) = n := num_le 8 n h0 (by omega)

end Go.Fw

end
