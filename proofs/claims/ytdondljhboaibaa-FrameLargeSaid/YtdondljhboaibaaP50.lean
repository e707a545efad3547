/- The abstract machine, and the contracts of the code: part 50. -/
import Derived.Test.YtdondljhboaibaaFwFb

section
/- compact: bytes laid. -/
namespace Go.Fw
open Go Go.Proofs
set_option linter.unusedVariables false
set_option linter.unusedSimpArgs false

def F34 : Fun
  | [.by b] => if b.length ≤ 549755813888 then some ([.by b], .own 0) else none
  | _ => none

theorem ct34 : CT [] [0, 2] [] := ⟨GClOk.nil _⟩

theorem c34 : ACon Try.prog 34 F34 := by
  refine aconc E_ok (rs := [.tmp 2 22]) Try.func34 rfl Try.ntmps34 (by kernel_rfl) rfl (by decide) F34 (np := 1) ?_ ?_
  · intro ts h; unfold F34; split <;> first | rfl | (simp at h; done)
  intro ts H r hF hwf
  unfold F34 at hF
  split at hF <;> try (cases hF; done)
  rename_i b
  split at hF
  case isFalse => cases hF
  rename_i hc
  have hb := hc
  cases hF
  repeat refine St trivial ct34 ?_
  exact AWP.ret (Fin trivial [] [0])

def F30 : Fun
  | [.by b, .int .u32 n, .int .i64 m] => if b.length ≤ 549755813000 ∧ 0 ≤ m ∧ m ≤ 16 then some ([.by (b ++ le m.toNat n)], .own 0) else none
  | _ => none

theorem ct30 : CT [] [0, 1, 2, 6, 7, 8, 21, 22, 23] [] := ⟨GClOk.nil _⟩

theorem c30 : ACon Try.prog 30 F30 := by
  refine aconc E_ok (rs := [.tmp 6 22]) Try.func30 rfl Try.ntmps30 (by kernel_rfl) rfl (by decide) F30 (np := 3) ?_ ?_
  · intro ts h; unfold F30; split <;> first | rfl | (simp at h; done)
  intro ts H r hF hwf
  unfold F30 at hF
  split at hF <;> try (cases hF; done)
  rename_i b n m
  split at hF
  case isFalse => cases hF
  rename_i hc
  obtain ⟨hb, h0, h1⟩ := hc
  cases hF
  have hn := inK_u32 (hwf (.int .u32 n) (by simp))
  repeat refine St trivial ct30 ?_
  refine AWP.loop (G := { k : Nat // k ≤ m.toNat }) (fun k => ⟨[(7, .own 0), (8, .t (.int .u64 (shrB k.1 n))), (21, .t (.int .i64 m)), (22, .t (.int .i64 (k.1 : Int)))], [.by (b ++ le k.1 n)]⟩)
    (fun k => m.toNat - k.1) ⟨0, by omega⟩ (Wt (And.intro (And.intro @shrB.eq_1 <| @shrB.eq_2) <| (And.intro @le.eq_1 <| @le.eq_2)) [7, 8, 21, 22] [0]) ?_
  intro ⟨k, hk⟩
  dsimp only
  by_cases hlt : (k : Int) < m
  · have hl : (b ++ le k n).length ≤ 549755813100 := by simp [le_len]; omega
    have hr := shrB_range k n (by omega) (by omega)
    repeat refine St (And.intro @shr8 <| @le_len) ct30 ?_
    exact ⟨⟨k + 1, by omega⟩, (Wt (And.intro (And.intro @shrB.eq_1 <| @shrB.eq_2) <| And.intro (And.intro @le.eq_1 <| @le.eq_2) <| @List.append_assoc.{0}) [7, 8, 21, 22] [2]), by simp only; omega⟩
  · obtain rfl : k = m.toNat := by omega
    repeat refine St trivial ct30 ?_
    exact AWP.ret (Fin trivial [] [0])

def F20 : Fun
  | [.by b, .int .u32 n] => if b.length ≤ 549755812000 then some ([.by (b ++ le 4 n)], .own 0) else none
  | _ => none

theorem ct20 : CT [(30, ⟨[false, false, false], treeG F30⟩)] [0, 1, 4] [] := ⟨(.cons c30.g (.nil _))⟩

theorem c20 : ACon Try.prog 20 F20 := by
  refine aconc E_ok (rs := [.tmp 4 22]) Try.func20 rfl Try.ntmps20 (by kernel_rfl) rfl (by decide) F20 (np := 2) ?_ ?_
  · intro ts h; unfold F20; split <;> first | rfl | (simp at h; done)
  intro ts H r hF hwf
  unfold F20 at hF
  split at hF <;> try (cases hF; done)
  rename_i b n
  split at hF
  case isFalse => cases hF
  rename_i hc
  have hb := hc
  cases hF
  have h : F30 [.by b, .int .u32 n, .int .i64 4] = some ([.by (b ++ le 4 n)], .own 0) := if_pos (by omega)
  repeat refine St h ct20 ?_
  exact AWP.ret (Fin trivial [] [0])

theorem put32_c {b : List UInt8} (n : Int) (h : b.length ≤ 549755812000) : F20 [.by b, .int .u32 n] = some ([.by (b ++ le 4 n)], .own 0) := if_pos h
end Go.Fw

end

section
/- compact: bytes taken apart. -/
namespace Go.Fw
open Go Go.Proofs
set_option linter.unusedVariables false
set_option linter.unusedSimpArgs false

def F38 : Fun
  | [.by b, .int .i64 n] => some ([], .tup [.t (.by (spA b n)), .t (.by (spB b n)), .t (.int .i64 (spE b n))])
  | _ => none

theorem ct38 : CT [] [0, 1, 4, 5, 6, 7, 10] [(5, [⟨0, [0], []⟩, ⟨0, [1], []⟩, ⟨1, [15, 16], []⟩, ⟨0, [0], []⟩, ⟨0, [1], []⟩, ⟨1, [18, 19], []⟩, ⟨0, [17], [2]⟩, ⟨0, [20], [2, 5]⟩, ⟨0, [], [2, 5]⟩])] := ⟨GClOk.nil _⟩

theorem c38 : ACon Try.prog 38 F38 := by
  refine aconc E_ok (rs := [.tmp 4 22, .tmp 5 22, .tmp 6 24]) Try.func38 rfl Try.ntmps38 (by kernel_rfl) rfl (by decide) F38 (np := 2) ?_ ?_
  · intro ts h; unfold F38; split <;> first | rfl | (simp at h; done)
  intro ts H r hF hwf
  unfold F38 at hF
  split at hF <;> try (cases hF; done)
  rename_i b n
  cases hF
  by_cases h1 : n < 0
  · repeat refine St trivial ct38 ?_
    exact AWP.ret (Fin (And.intro @spA.eq_def <| And.intro @spB.eq_def <| And.intro @spE.eq_def <| h1) [] [])
  by_cases h2 : (b.length : Int) < n
  · repeat refine St trivial ct38 ?_
    exact AWP.ret (Fin (And.intro @spA.eq_def <| And.intro @spB.eq_def <| And.intro @spE.eq_def <| And.intro h1 <| h2) [] [])
  repeat refine St trivial ct38 ?_
  exact AWP.ret (Fin (And.intro @spA.eq_def <| And.intro @spB.eq_def <| And.intro @spE.eq_def <| And.intro h1 <| h2) [] [])

def F33 : Fun
  | [.by b, .int .i64 n] => if n ≤ 8 then some ([], .tup [.t (.int .u64 (num (spA b n))), .t (.by (spB b n)), .t (.int .i64 (spE b n))]) else none
  | _ => none

theorem ct33 : CT [(38, ⟨[false, false], treeG F38⟩)] [0, 1, 4, 5, 6, 7, 8, 9, 10, 11, 20, 21, 22] [] := ⟨(.cons c38.g (.nil _))⟩

theorem c33 : ACon Try.prog 33 F33 := by
  refine aconc E_ok (rs := [.tmp 4 49, .tmp 5 22, .tmp 6 24]) Try.func33 rfl Try.ntmps33 (by kernel_rfl) rfl (by decide) F33 (np := 2) ?_ ?_
  · intro ts h; unfold F33; split <;> first | rfl | (simp at h; done)
  intro ts H r hF hwf
  unfold F33 at hF
  split at hF <;> try (cases hF; done)
  rename_i b n
  split at hF
  case isFalse => cases hF
  rename_i hc
  have hn := hc
  cases hF
  have h8 := spA_le b n 8 hn
  generalize hx : spA b n = x at h8
  repeat refine St (And.intro @F38.eq_def <| hx) ct33 ?_
  have hz : num (x.take 0) = 0 := by simp [num]
  refine AWP.loop (G := { k : Nat // k ≤ x.length }) (fun k => ⟨[(7, .t (.by x)), (8, .t (.by (spB b n))), (9, .t (.int .i64 (spE b n))), (10, .t (.int .u64 (num (x.take k.1)))), (20, .t (.int .i64 (x.length : Int))), (21, .t (.int .i64 (k.1 : Int)))], []⟩)
    (fun k => x.length - k.1) ⟨0, by omega⟩ (Wt (And.intro hz <| (And.intro @num.eq_1 <| @num.eq_2)) [7, 8, 9, 10, 20, 21] []) ?_
  intro ⟨k, hk⟩
  dsimp only
  by_cases hlt : (k : Int) < (x.length : Int)
  · have hd := num_take x k (by omega)
    have h88 := num_lt8 (x.take (k + 1)) (by simp; omega)
    have hp := num_lt (x.take k)
    have htl : (x.take k).length = k := by simp; omega
    rw [htl] at hp
    have hc := (x.getD k 0).toNat_lt
    have e1 : IntKind.i64.wrap (8 * (k : Int)) = ((8 * k : Nat) : Int) := by rw [wrap_i64 (by omega) (by omega)]; omega
    have e2 : IntKind.u64.wrap (((x.getD k 0).toNat : Int) * 2 ^ min (8 * k) IntKind.u64.bits) = (((x.getD k 0).toNat * 256 ^ k : Nat) : Int) := by
      have := shl_step (x.getD k 0).toNat k (by omega) (by omega)
      simp only [arith, Int.toNat_natCast] at this
      rw [if_neg (by omega)] at this
      have h1 : min (8 * k) IntKind.u64.bits = min (8 * k) 64 := rfl
      simpa using this
    have e3 : abits .or .u64 (num (x.take k) : Int) (((x.getD k 0).toNat * 256 ^ k : Nat) : Int) = ((num (x.take (k + 1)) : Nat) : Int) := by
      have := or_step (num (x.take k)) (x.getD k 0).toNat k hp (by omega)
      rw [← hd] at this
      simpa only [arith, Option.some.injEq, T.int.injEq, true_and] using this
    have e0 : ¬ ((8 * k : Nat) : Int) < 0 := by omega
    have hkx : k < x.length := by omega
    have e4 : IntKind.u64.wrap ((x.getD k 0).toNat : Int) = ((x.getD k 0).toNat : Int) := wrap_u64 (by omega) (by omega)
    repeat refine St (And.intro hkx <| And.intro e0 <| And.intro e1 <| And.intro e2 <| And.intro e3 <| e4) ct33 ?_
    exact ⟨⟨k + 1, by omega⟩, (Wt trivial [7, 8, 9, 10, 20, 21] []), by simp only; omega⟩
  · obtain rfl : k = x.length := by omega
    repeat refine St trivial ct33 ?_
    exact AWP.ret (Fin (@List.take_length.{0}) [] [])

theorem read_c (l : List UInt8) (n : Int) (h : n ≤ 8) : F33 [.by l, .int .i64 n] = some ([], .tup [.t (.int .u64 (num (spA l n))), .t (.by (spB l n)), .t (.int .i64 (spE l n))]) := if_pos h

def F26 : Fun
  | [.by b] => if b.length ≤ 549755813000 then some ([], .tup [.t (.int .u32 (num (spA b 4))), .t (.by (spB b 4)), .t (.int .i64 (spE b 4))]) else none
  | _ => none

theorem ct26 : CT [(33, ⟨[false, false], treeG F33⟩), (34, ⟨[false], treeG F34⟩)] [0, 2, 3, 4, 5, 6, 7] [] := ⟨(.cons c33.g (.cons c34.g (.nil _)))⟩

theorem c26 : ACon Try.prog 26 F26 := by
  refine aconc E_ok (rs := [.tmp 2 46, .tmp 3 22, .tmp 4 24]) Try.func26 rfl Try.ntmps26 (by kernel_rfl) rfl (by decide) F26 (np := 1) ?_ ?_
  · intro ts h; unfold F26; split <;> first | rfl | (simp at h; done)
  intro ts H r hF hwf
  unfold F26 at hF
  split at hF <;> try (cases hF; done)
  rename_i b
  split at hF
  case isFalse => cases hF
  rename_i hc
  have hb := hc
  cases hF
  have hl := spB_len b 4
  have h4 := num_lt4 (spA b 4) (spA_le b 4 4 (by omega))
  have hw : IntKind.u32.wrap (num (spA b 4) : Int) = num (spA b 4) := wrap_u32 (by omega) (by omega)
  have h1 := read_c b 4 (by omega)
  have h2 : F34 [.by (spB b 4)] = some ([.by (spB b 4)], .own 0) := if_pos (by omega)
  repeat refine St (And.intro h1 <| And.intro h2 <| hw) ct26 ?_
  exact AWP.ret (Fin trivial [0] [])

theorem take32_c {b : List UInt8} (h : b.length ≤ 549755813000) : F26 [.by b] = some ([], .tup [.t (.int .u32 (num (spA b 4))), .t (.by (spB b 4)), .t (.int .i64 (spE b 4))]) := if_pos h
end Go.Fw

end

section
/- Chapter 7: turning, the numbers of the steps. -/
namespace Go.Fw
open Go Go.Proofs
set_option linter.unusedVariables false
set_option linter.unusedSimpArgs false

theorem u32_of {n : Int} (h : inK .u32 n) : n = ((UInt32.ofNat n.toNat).toNat : Int) := by
  obtain ⟨h1, h2⟩ := h
  have h2' : n ≤ 4294967295 := h2
  have h1' : 0 ≤ n := h1
  rw [UInt32.toNat_ofNat', Nat.mod_eq_of_lt (by omega)]; omega

theorem rot_s : ∀ r : Nat, r < 32 → 1 ≤ r → abits .and .u64 (IntKind.u64.wrap (-(r : Int))) 31 = ((32 - r : Nat) : Int) ∧ IntKind.u64.wrap (32 - ((32 - r : Nat) : Int)) = (r : Int) := by decide +kernel

def F50 : Fun
  | [.int .u32 n, .int .i64 k] => if -31 ≤ k ∧ k ≤ -1 then some ([], .t (u32T (tr (UInt32.ofNat n.toNat) (-k).toNat))) else none
  | _ => none

theorem ct50 : CT [] [0, 1, 4, 5] [] := ⟨GClOk.nil _⟩

theorem c50 : ACon Try.prog 50 F50 := by
  refine aconc E_ok (rs := [.tmp 4 46]) Try.func50 rfl Try.ntmps50 (by kernel_rfl) rfl (by decide) F50 (np := 2) ?_ ?_
  · intro ts h; unfold F50; split <;> first | rfl | (simp at h; done)
  intro ts H r hF hwf
  unfold F50 at hF
  split at hF <;> try (cases hF; done)
  rename_i n k
  split at hF
  case isFalse => cases hF
  rename_i hk
  have hn : inK .u32 n := by have := hwf _ (List.mem_cons_self); simpa only [T.wf] using this
  have hn' := u32_of hn
  generalize UInt32.ofNat n.toNat = x at *
  subst hn'
  obtain ⟨r, hr, hr1⟩ : ∃ r : Nat, k = -(r : Int) ∧ (-k).toNat = r := ⟨(-k).toNat, by omega, rfl⟩
  rw [hr1] at hF
  cases hF
  subst hr
  obtain ⟨h1, h2⟩ := rot_s r (by omega) (by omega)
  have h0 : ¬ ((32 - r : Nat) : Int) < 0 := by omega
  have h3 : ¬ (r : Int) < 0 := by omega
  have h4 := u32_shl x (32 - r) (by omega)
  have h5 := u32_shr x r (by omega)
  repeat refine St (And.intro h1 <| And.intro h2 <| And.intro h0 <| And.intro h3 <| And.intro h4 <| And.intro h5 <| @u32_or) ct50 ?_
  have e : tr x r = x <<< UInt32.ofNat (32 - r) ||| x >>> UInt32.ofNat r := UInt32.or_comm _ _
  exact AWP.ret (Fin (And.intro e <| @u32T.eq_def) [] [])

theorem u32_ofNat (x : UInt32) : UInt32.ofNat x.toNat = x := by simp
theorem rot_c (x : UInt32) (r : Nat) (h : r ≤ 31) (h1 : 1 ≤ r) : F50 [.int .u32 (x.toNat : Int), .int .i64 (-(r : Int))] = some ([], .t (.int .u32 ((tr x r).toNat : Int))) := by
  simp only [F50]
  rw [if_pos ⟨by omega, by omega⟩]
  simp [u32T]
theorem rotc2 (x : UInt32) : F50 [.int .u32 (x.toNat : Int), .int .i64 (-2)] = some ([], .t (.int .u32 ((tr x 2).toNat : Int))) := rot_c x 2 (by omega) (by omega)
theorem rotc6 (x : UInt32) : F50 [.int .u32 (x.toNat : Int), .int .i64 (-6)] = some ([], .t (.int .u32 ((tr x 6).toNat : Int))) := rot_c x 6 (by omega) (by omega)
theorem rotc7 (x : UInt32) : F50 [.int .u32 (x.toNat : Int), .int .i64 (-7)] = some ([], .t (.int .u32 ((tr x 7).toNat : Int))) := rot_c x 7 (by omega) (by omega)
theorem rotc11 (x : UInt32) : F50 [.int .u32 (x.toNat : Int), .int .i64 (-11)] = some ([], .t (.int .u32 ((tr x 11).toNat : Int))) := rot_c x 11 (by omega) (by omega)
theorem rotc13 (x : UInt32) : F50 [.int .u32 (x.toNat : Int), .int .i64 (-13)] = some ([], .t (.int .u32 ((tr x 13).toNat : Int))) := rot_c x 13 (by omega) (by omega)
theorem rotc17 (x : UInt32) : F50 [.int .u32 (x.toNat : Int), .int .i64 (-17)] = some ([], .t (.int .u32 ((tr x 17).toNat : Int))) := rot_c x 17 (by omega) (by omega)
theorem rotc18 (x : UInt32) : F50 [.int .u32 (x.toNat : Int), .int .i64 (-18)] = some ([], .t (.int .u32 ((tr x 18).toNat : Int))) := rot_c x 18 (by omega) (by omega)
theorem rotc19 (x : UInt32) : F50 [.int .u32 (x.toNat : Int), .int .i64 (-19)] = some ([], .t (.int .u32 ((tr x 19).toNat : Int))) := rot_c x 19 (by omega) (by omega)
theorem rotc22 (x : UInt32) : F50 [.int .u32 (x.toNat : Int), .int .i64 (-22)] = some ([], .t (.int .u32 ((tr x 22).toNat : Int))) := rot_c x 22 (by omega) (by omega)
theorem rotc25 (x : UInt32) : F50 [.int .u32 (x.toNat : Int), .int .i64 (-25)] = some ([], .t (.int .u32 ((tr x 25).toNat : Int))) := rot_c x 25 (by omega) (by omega)

theorem kT_eq : List.map u32T kS = [T.int .u32 1116352408, T.int .u32 1899447441, T.int .u32 3049323471, T.int .u32 3921009573, T.int .u32 961987163, T.int .u32 1508970993, T.int .u32 2453635748, T.int .u32 2870763221, T.int .u32 3624381080, T.int .u32 310598401, T.int .u32 607225278, T.int .u32 1426881987, T.int .u32 1925078388, T.int .u32 2162078206, T.int .u32 2614888103, T.int .u32 3248222580, T.int .u32 3835390401, T.int .u32 4022224774, T.int .u32 264347078, T.int .u32 604807628, T.int .u32 770255983, T.int .u32 1249150122, T.int .u32 1555081692, T.int .u32 1996064986, T.int .u32 2554220882, T.int .u32 2821834349, T.int .u32 2952996808, T.int .u32 3210313671, T.int .u32 3336571891, T.int .u32 3584528711, T.int .u32 113926993, T.int .u32 338241895, T.int .u32 666307205, T.int .u32 773529912, T.int .u32 1294757372, T.int .u32 1396182291, T.int .u32 1695183700, T.int .u32 1986661051, T.int .u32 2177026350, T.int .u32 2456956037, T.int .u32 2730485921, T.int .u32 2820302411, T.int .u32 3259730800, T.int .u32 3345764771, T.int .u32 3516065817, T.int .u32 3600352804, T.int .u32 4094571909, T.int .u32 275423344, T.int .u32 430227734, T.int .u32 506948616, T.int .u32 659060556, T.int .u32 883997877, T.int .u32 958139571, T.int .u32 1322822218, T.int .u32 1537002063, T.int .u32 1747873779, T.int .u32 1955562222, T.int .u32 2024104815, T.int .u32 2227730452, T.int .u32 2361852424, T.int .u32 2428436474, T.int .u32 2756734187, T.int .u32 3204031479, T.int .u32 3329325298] := rfl
theorem hT_eq : List.map u32T hS = [T.int .u32 1779033703, T.int .u32 3144134277, T.int .u32 1013904242, T.int .u32 2773480762, T.int .u32 1359893119, T.int .u32 2600822924, T.int .u32 528734635, T.int .u32 1541459225] := rfl

def F49 : Fun
  | [] => some ([], .t (.ar 64 1 (kS.map u32T)))
  | _ => none

theorem ct49 : CT [] [0] [] := ⟨GClOk.nil _⟩

theorem c49 : ACon Try.prog 49 F49 := by
  refine aconc E_ok (rs := [.cell 0 75]) Try.func49 rfl Try.ntmps49 (by kernel_rfl) rfl (by decide) F49 (np := 0) ?_ ?_
  · intro ts h; unfold F49; split <;> first | rfl | (simp at h; done)
  intro ts H r hF hwf
  unfold F49 at hF
  split at hF <;> try (cases hF; done)
  cases hF
  repeat refine St @zar_len ct49 ?_
  exact AWP.ret (Fin @kT_eq [] [])

def F45 : Fun
  | [] => some ([], .t (.ar 8 1 (hS.map u32T)))
  | _ => none

theorem ct45 : CT [] [0] [] := ⟨GClOk.nil _⟩

theorem c45 : ACon Try.prog 45 F45 := by
  refine aconc E_ok (rs := [.cell 0 69]) Try.func45 rfl Try.ntmps45 (by kernel_rfl) rfl (by decide) F45 (np := 0) ?_ ?_
  · intro ts h; unfold F45; split <;> first | rfl | (simp at h; done)
  intro ts H r hF hwf
  unfold F45 at hF
  split at hF <;> try (cases hF; done)
  cases hF
  repeat refine St trivial ct45 ?_
  exact AWP.ret (Fin @hT_eq [] [])

end Go.Fw

end

section
/- Chapter 7: a block's numbers. -/
namespace Go.Fw
open Go Go.Proofs
set_option linter.unusedVariables false
set_option linter.unusedSimpArgs false

def F48 : Fun
  | [.by b] => if b.length = 64 then some ([], .t (.ar 64 1 ((sch b 64).map u32T))) else none
  | _ => none

theorem ct48 : CT [(50, ⟨[false, false], treeG F50⟩)] [0, 2, 3, 4, 6, 7, 8, 9, 10, 11, 12, 13, 21, 22, 23, 24, 39] [(14, [⟨0, [7], []⟩, ⟨0, [42], []⟩, ⟨1, [3, 43], []⟩, ⟨1, [44], [2]⟩, ⟨0, [7], []⟩, ⟨0, [46], []⟩, ⟨1, [3, 47], []⟩, ⟨1, [48], [6]⟩, ⟨0, [45], [2, 3]⟩, ⟨0, [49], [2, 3, 6, 7]⟩]), (17, [⟨0, [7], []⟩, ⟨0, [7], []⟩, ⟨0, [67], []⟩, ⟨1, [3, 68], []⟩, ⟨1, [69], [3]⟩, ⟨0, [10], []⟩, ⟨0, [70, 71], [3, 4]⟩, ⟨0, [7], []⟩, ⟨0, [73], []⟩, ⟨1, [3, 74], []⟩, ⟨1, [75], [9]⟩, ⟨0, [72, 76], [3, 4, 9, 10]⟩, ⟨0, [11], []⟩, ⟨0, [77, 78], [3, 4, 9, 10]⟩, ⟨1, [3, 66], [3, 4, 9, 10]⟩, ⟨2, [79, 80], [3, 4, 9, 10, 14]⟩])] := ⟨(.cons c50.g (.nil _))⟩

/-- The array so far: so many numbers, then noughts. -/
def arS (l : List UInt32) (n : Nat) : List T := (l ++ List.replicate (n - l.length) 0).map u32T
theorem arS_len {l : List UInt32} {n : Nat} (h : l.length ≤ n) : (arS l n).length = n := by simp [arS]; omega
theorem arS_get {l : List UInt32} {n i : Nat} (h : i < l.length) : (arS l n).getD i default = .int .u32 ((l.getD i 0).toNat : Int) := by
  simp [arS, List.getD_eq_getElem?_getD, List.getElem?_append_left, h, u32T]
theorem rep_pad {l : List UInt32} {n : Nat} (h : l.length < n) : l ++ List.replicate (n - l.length) 0 = l ++ 0 :: List.replicate (n - (l.length + 1)) 0 := by
  have e : n - l.length = (n - (l.length + 1)) + 1 := by omega
  rw [e, List.replicate_succ]
theorem arS_set {l : List UInt32} {n : Nat} {x y : UInt32} (h : l.length < n) : (arS (l ++ [y]) n).set l.length (.int .u32 (x.toNat : Int)) = arS (l ++ [x]) n := by
  have e : T.int .u32 (x.toNat : Int) = u32T x := rfl
  rw [e]
  simp only [arS, ← List.map_set]
  simp
theorem arS_zero {l : List UInt32} {n : Nat} (h : l.length < n) : arS l n = arS (l ++ [0]) n := by
  unfold arS
  rw [rep_pad h]
  simp
theorem arS_nil (n : Nat) : arS [] n = zar n (.int .u32 0) := by simp [arS, zar, u32T]
theorem arS_full {l : List UInt32} {n : Nat} (h : l.length = n) : arS l n = l.map u32T := by simp [arS, h]

theorem arS_size (l : List UInt32) (n i : Nat) (h : i < (arS l n).length) : ((arS l n).getD i default).size = 1 := by
  unfold arS at *
  rw [List.length_map] at h
  rw [u32T_getD h]; rfl

theorem sl8 (x : UInt32) : IntKind.u32.wrap ((x.toNat : Int) * 2 ^ (min 8 IntKind.u32.bits)) = ((x <<< 8).toNat : Int) := u32_shl x 8 (by omega)
theorem sr3 (x : UInt32) : Int.fdiv (x.toNat : Int) (2 ^ (min 3 IntKind.u32.bits)) = ((x >>> 3).toNat : Int) := u32_shr x 3 (by omega)
theorem sr10 (x : UInt32) : Int.fdiv (x.toNat : Int) (2 ^ (min 10 IntKind.u32.bits)) = ((x >>> 10).toNat : Int) := u32_shr x 10 (by omega)

def wacc (b : List UInt8) (t : Nat) : Nat → UInt32
  | 0 => 0
  | j + 1 => wacc b t j <<< 8 ||| (b.getD (4 * t + j) 0).toUInt32
theorem wacc4 (b : List UInt8) (t : Nat) : wacc b t 4 = word b t := by
  simp only [wacc, word, Nat.add_zero]
  congr 6
  simp

theorem fsg0 (x : UInt32) : tr x 7 ^^^ tr x 18 ^^^ x >>> 3 = sg0 x := rfl
theorem fsg1 (x : UInt32) : tr x 17 ^^^ tr x 19 ^^^ x >>> 10 = sg1 x := rfl

set_option maxHeartbeats 1000000 in
theorem c48 : ACon Try.prog 48 F48 := by
  refine aconc E_ok (rs := [.cell 2 75]) Try.func48 rfl Try.ntmps48 (by kernel_rfl) rfl (by decide) F48 (np := 1) ?_ ?_
  · intro ts h; unfold F48; split <;> first | rfl | (simp at h; done)
  intro ts H r hF hwf
  unfold F48 at hF
  split at hF <;> try (cases hF; done)
  rename_i b
  split at hF
  case isFalse => cases hF
  rename_i hb
  cases hF
  repeat refine St trivial ct48 ?_
  refine AWP.loop (G := { t : Nat // t ≤ 16 }) (fun t => ⟨[(0, .t (.by b)), (2, .ptr 0 0 []), (3, .ptr 1 0 []), (12, .t (.int .i64 (t.1 : Int)))], [.bx (.t (.ar 64 1 (zar 64 (.int .u32 0)))), .bx (.t (.ar 64 1 (arS (sch b t.1) 64)))]⟩) (fun t => 16 - t.1) ⟨0, by omega⟩ ((Wt (And.intro (And.intro @sch.eq_1 <| @sch.eq_2) <| @arS_nil) [0, 2, 3, 12] [0, 1])) ?_
  · intro ⟨t, ht⟩
    dsimp only
    have hsl := sch_len b t
    by_cases hlt : (t : Int) < 16
    case neg =>
      obtain rfl : t = 16 := by omega
      repeat refine St hlt ct48 ?_
      refine AWP.loop (G := { t : Nat // 16 ≤ t ∧ t ≤ 64 }) (fun t => ⟨[(0, .t (.by b)), (2, .ptr 0 0 []), (3, .ptr 1 0 []), (7, .t (.int .i64 (t.1 : Int)))], [.bx (.t (.ar 64 1 (zar 64 (.int .u32 0)))), .bx (.t (.ar 64 1 (arS (sch b t.1) 64)))]⟩) (fun t => 64 - t.1) ⟨16, by omega⟩ ((Wt trivial [0, 2, 3, 7] [0, 1])) ?_
      intro ⟨t, ht1, ht2⟩
      dsimp only
      have hsl := sch_len b t
      by_cases hlt2 : (t : Int) < 64
      case neg =>
        obtain rfl : t = 64 := by omega
        have hf := arS_full hsl
        have harl : (List.map u32T (sch b 64)).length = 64 := by simp [hsl]
        repeat refine St (And.intro hlt2 <| And.intro hf <| And.intro harl <| And.intro @T.size.eq_def <| @zar_len) ct48 ?_
        exact AWP.ret (Fin trivial [] [])
      have ht64 : t < 64 := by omega
      have hm15 : IntKind.i64.wrap ((t : Int) - 15) = ((t - 15 : Nat) : Int) := by rw [wrap_i64 (by omega) (by omega)]; omega
      have hm2 : IntKind.i64.wrap ((t : Int) - 2) = ((t - 2 : Nat) : Int) := by rw [wrap_i64 (by omega) (by omega)]; omega
      have hm16 : IntKind.i64.wrap ((t : Int) - 16) = ((t - 16 : Nat) : Int) := by rw [wrap_i64 (by omega) (by omega)]; omega
      have hm7 : IntKind.i64.wrap ((t : Int) - 7) = ((t - 7 : Nat) : Int) := by rw [wrap_i64 (by omega) (by omega)]; omega
      have hk1 : IntKind.i64.wrap ((t : Int) + 1) = ((t + 1 : Nat) : Int) := by rw [wrap_i64 (by omega) (by omega)]; omega
      have harl : (arS (sch b t) 64).length = 64 := arS_len (by omega)
      have g15 := arS_get (n := 64) (l := sch b t) (i := t - 15) (by omega)
      have g2 := arS_get (n := 64) (l := sch b t) (i := t - 2) (by omega)
      have g16 := arS_get (n := 64) (l := sch b t) (i := t - 16) (by omega)
      have g7 := arS_get (n := 64) (l := sch b t) (i := t - 7) (by omega)
      have l15 : t - 15 < 64 := by omega
      have l2 : t - 2 < 64 := by omega
      have l16 : t - 16 < 64 := by omega
      have l7 : t - 7 < 64 := by omega
      have i15 : ((t - 15 : Nat) : Int) < 64 := by omega
      have i2 : ((t - 2 : Nat) : Int) < 64 := by omega
      have i16 : ((t - 16 : Nat) : Int) < 64 := by omega
      have i7 : ((t - 7 : Nat) : Int) < 64 := by omega
      have hars : ∀ y : UInt32, (arS (sch b t) 64).set t (.int .u32 (y.toNat : Int)) = arS (sch b t ++ [y]) 64 := fun y => by
        have := arS_set (l := sch b t) (n := 64) (x := y) (y := 0) (by omega)
        rw [← arS_zero (by omega), hsl] at this
        exact this
      have gsz := arS_size (sch b t) 64 t (by omega)
      have hnx : sch b t ++ [(sch b t).getD (t - 16) 0 + sg0 ((sch b t).getD (t - 15) 0) + (sch b t).getD (t - 7) 0 + sg1 ((sch b t).getD (t - 2) 0)] = sch b (t + 1) := by simp only [sch, next]; rw [if_neg (by omega)]
      repeat refine St (And.intro hlt2 <| And.intro hm15 <| And.intro hm2 <| And.intro hm16 <| And.intro hm7 <| And.intro harl <| And.intro g15 <| And.intro g2 <| And.intro g16 <| And.intro g7 <| And.intro l15 <| And.intro l2 <| And.intro l16 <| And.intro l7 <| And.intro i15 <| And.intro i2 <| And.intro i16 <| And.intro i7 <| And.intro ht64 <| And.intro @rotc7 <| And.intro @rotc18 <| And.intro @rotc17 <| And.intro @rotc19 <| And.intro @u32_xor <| And.intro @u32_add <| And.intro @sr3 <| And.intro @sr10 <| And.intro @fsg0 <| And.intro @fsg1 <| And.intro hars <| And.intro hk1 <| gsz) ct48 ?_
      exact ⟨⟨t + 1, by omega, by omega⟩, (Wt hnx [0, 2, 3, 7] [0, 1]), by simp only; omega⟩
    have hm1 : IntKind.i64.wrap (4 * (t : Int)) = ((4 * t : Nat) : Int) := by rw [wrap_i64 (by omega) (by omega)]; omega
    have hm2 : IntKind.i64.wrap (((4 * t : Nat) : Int) + 4) = ((4 * t + 4 : Nat) : Int) := by rw [wrap_i64 (by omega) (by omega)]; omega
    repeat refine St (And.intro hlt <| And.intro hm1 <| And.intro hm2 <| hb) ct48 ?_
    have hdl : (List.drop (4 * t) (List.take (4 * t + 4) b)).length = 4 := by simp; omega
    generalize hR : List.drop (4 * t) (List.take (4 * t + 4) b) = R at hdl
    have ht64 : t < 64 := by omega
    have harl : ∀ z, (arS (sch b t ++ [z]) 64).length = 64 := fun z => arS_len (by simp [hsl]; omega)
    have harg : ∀ z, (arS (sch b t ++ [z]) 64).getD t default = .int .u32 (z.toNat : Int) := fun z => by
      rw [arS_get (by simp [hsl])]
      simp [List.getD_eq_getElem?_getD, hsl]
    have hars : ∀ z y : UInt32, (arS (sch b t ++ [z]) 64).set t (.int .u32 (y.toNat : Int)) = arS (sch b t ++ [y]) 64 := fun z y => by
      have := arS_set (l := sch b t) (n := 64) (x := y) (y := z) (by omega)
      rwa [hsl] at this
    have hsn : sch b t ++ [word b t] = sch b (t + 1) := by simp only [sch, next]; rw [if_pos (by omega)]
    have hk2 : IntKind.i64.wrap ((t : Int) + 1) = ((t + 1 : Nat) : Int) := by rw [wrap_i64 (by omega) (by omega)]; omega
    refine AWP.loop (G := { j : Nat // j ≤ 4 }) (fun j => ⟨[(0, .t (.by b)), (2, .ptr 0 0 []), (3, .ptr 1 0 []), (4, .t (.int .i64 (t : Int))), (12, .t (.int .i64 (t : Int))), (21, .t (.by R)), (22, .t (.int .i64 4)), (23, .t (.int .i64 (j.1 : Int)))], [.bx (.t (.ar 64 1 (zar 64 (.int .u32 0)))), .bx (.t (.ar 64 1 (arS (sch b t ++ [wacc b t j.1]) 64)))]⟩) (fun j => 4 - j.1) ⟨0, by omega⟩ (Wt (And.intro (arS_zero (show (sch b t).length < 64 by omega)) <| And.intro (And.intro @wacc.eq_1 <| @wacc.eq_2) <| hdl) [0, 2, 3, 4, 12, 21, 22, 23] [0, 1]) ?_
    intro ⟨j, hj⟩
    dsimp only
    by_cases hlt4 : (j : Int) < 4
    · have hRg : R.getD j 0 = b.getD (4 * t + j) 0 := by
        rw [← hR]; simp only [List.getD_eq_getElem?_getD, List.getElem?_drop, List.getElem?_take]
        rw [if_pos (by omega)]
      have hj4 : j < 4 := by omega
      have hk1 : IntKind.i64.wrap ((j : Int) + 1) = ((j + 1 : Nat) : Int) := by rw [wrap_i64 (by omega) (by omega)]; omega
      repeat refine St (And.intro hlt4 <| And.intro hRg <| And.intro hj4 <| And.intro hdl <| And.intro harl <| And.intro harg <| And.intro hars <| And.intro ht64 <| And.intro @sl8 <| And.intro @u32_of_u8 <| And.intro @u32_or <| And.intro hk1 <| @u8.eq_def) ct48 ?_
      exact ⟨⟨j + 1, by omega⟩, (Wt (And.intro @wacc.eq_1 <| @wacc.eq_2) [0, 2, 3, 4, 12, 21, 22, 23] [0, 1]), by simp only; omega⟩
    · obtain rfl : j = 4 := by omega
      repeat refine St (And.intro hlt4 <| hk2) ct48 ?_
      exact ⟨⟨t + 1, by omega⟩, (Wt (And.intro @wacc4 <| hsn) [0, 2, 3, 12] [0, 1]), by simp only; omega⟩

end Go.Fw

end

section
/- Chapter 7: a block taken. -/
namespace Go.Fw
open Go Go.Proofs
set_option linter.unusedVariables false
set_option linter.unusedSimpArgs false

theorem u32T_inj {a b : UInt32} (h : u32T a = u32T b) : a = b := by
  simp only [u32T, T.int.injEq, true_and] at h
  exact UInt32.toNat_inj.1 (by omega)
noncomputable def asS8 (xs : List T) : Option S8 := inv (fun s : S8 => s.l.map u32T) xs
theorem asS8_map (s : S8) : asS8 (s.l.map u32T) = some s := inv_of (f := fun s : S8 => s.l.map u32T) (fun a b h => by
  simp only [S8.l, List.map_cons, List.map_nil, List.cons.injEq, and_true] at h
  obtain ⟨h1, h2, h3, h4, h5, h6, h7, h8⟩ := h
  cases a; cases b
  simp only [S8.mk.injEq]
  exact ⟨u32T_inj h1, u32T_inj h2, u32T_inj h3, u32T_inj h4, u32T_inj h5, u32T_inj h6, u32T_inj h7, u32T_inj h8⟩) s
theorem asS8_inv {xs : List T} {s : S8} (h : asS8 xs = some s) : xs = s.l.map u32T := inv_inv (f := fun s : S8 => s.l.map u32T) h

/-- A variable of eight numbers, or a hash that begins with them. -/
noncomputable def G46 : GFun
  | [.bx (.t (.ar 8 1 xs))], [.ptr 0 0 [], .t (.by b)] => match asS8 xs with
    | some s => if b.length = 64 then some ([.bx (.t (.ar 8 1 ((blkS s b).l.map u32T)))], .tup []) else none
    | none => none
  | [.bx (.t (.st [.ar 8 1 xs, .by r, .int .u64 n]))], [.ptr 0 0 [0], .t (.by b)] => match asS8 xs with
    | some s => if b.length = 64 then some ([.bx (.t (.st [.ar 8 1 ((blkS s b).l.map u32T), .by r, .int .u64 n]))], .tup []) else none
    | none => none
  | _, _ => none

theorem ct46 : CT [(48, ⟨[false], treeG F48⟩), (49, ⟨[], treeG F49⟩), (50, ⟨[false, false], treeG F50⟩)] [0, 1, 4, 5, 6, 7, 8, 9, 10, 11, 12, 19, 20, 101, 102] [(6, (List.cons (⟨1, [6], []⟩ : Info) <| List.cons (⟨1, [24], [0]⟩ : Info) <| List.cons (⟨0, [8], []⟩ : Info) <| List.cons (⟨1, [26], []⟩ : Info) <| List.cons (⟨0, [8], []⟩ : Info) <| List.cons (⟨1, [28], [3]⟩ : Info) <| List.cons (⟨0, [27, 29], [3, 5]⟩ : Info) <| List.cons (⟨0, [8], []⟩ : Info) <| List.cons (⟨1, [31], [3, 5]⟩ : Info) <| List.cons (⟨0, [30, 32], [3, 5, 8]⟩ : Info) <| List.cons (⟨0, [25, 33], [0, 1, 3, 5, 8]⟩ : Info) <| List.cons (⟨0, [8], []⟩ : Info) <| List.cons (⟨1, [6], []⟩ : Info) <| List.cons (⟨1, [36], [12]⟩ : Info) <| List.cons (⟨0, [35, 37], [12, 13]⟩ : Info) <| List.cons (⟨0, [8], []⟩ : Info) <| List.cons (⟨0, [39], []⟩ : Info) <| List.cons (⟨1, [6], []⟩ : Info) <| List.cons (⟨1, [41], [17]⟩ : Info) <| List.cons (⟨0, [40, 42], [17, 18]⟩ : Info) <| List.cons (⟨0, [38, 43], [12, 13, 17, 18]⟩ : Info) <| List.cons (⟨0, [34, 44], [0, 1, 3, 5, 8, 12, 13, 17, 18]⟩ : Info) <| List.cons (⟨0, [7], []⟩ : Info) <| List.cons (⟨1, [5, 46], []⟩ : Info) <| List.cons (⟨1, [47], [23]⟩ : Info) <| List.cons (⟨0, [45, 48], [0, 1, 3, 5, 8, 12, 13, 17, 18, 23, 24]⟩ : Info) <| List.cons (⟨0, [7], []⟩ : Info) <| List.cons (⟨1, [4, 50], []⟩ : Info) <| List.cons (⟨1, [51], [27]⟩ : Info) <| List.cons (⟨0, [49, 52], [0, 1, 3, 5, 8, 12, 13, 17, 18, 23, 24, 27, 28]⟩ : Info) <| List.cons (⟨0, [53], [0, 1, 3, 5, 8, 12, 13, 17, 18, 23, 24, 27, 28]⟩ : Info) <| [])), (8, [⟨0, [10], []⟩, ⟨1, [56], []⟩, ⟨0, [10], []⟩, ⟨1, [58], [1]⟩, ⟨0, [57, 59], [1, 3]⟩, ⟨0, [10], []⟩, ⟨1, [61], [1, 3]⟩, ⟨0, [60, 62], [1, 3, 6]⟩, ⟨0, [10], []⟩, ⟨1, [6], []⟩, ⟨1, [65], [9]⟩, ⟨0, [64, 66], [9, 10]⟩, ⟨0, [10], []⟩, ⟨1, [6], []⟩, ⟨1, [69], [13]⟩, ⟨0, [68, 70], [13, 14]⟩, ⟨0, [67, 71], [9, 10, 13, 14]⟩, ⟨1, [6], []⟩, ⟨1, [73], [17]⟩, ⟨1, [6], []⟩, ⟨1, [75], [19]⟩, ⟨0, [74, 76], [17, 18, 19, 20]⟩, ⟨0, [72, 77], [9, 10, 13, 14, 17, 18, 19, 20]⟩, ⟨0, [63, 78], [1, 3, 6, 9, 10, 13, 14, 17, 18, 19, 20]⟩, ⟨0, [79], [1, 3, 6, 9, 10, 13, 14, 17, 18, 19, 20]⟩]), (14, [⟨0, [0], []⟩, ⟨0, [12], []⟩, ⟨0, [104], []⟩, ⟨1, [105, 106], []⟩, ⟨1, [107], [3]⟩, ⟨0, [12], []⟩, ⟨1, [6, 109], []⟩, ⟨1, [110], [6]⟩, ⟨0, [108, 111], [3, 4, 6, 7]⟩, ⟨0, [104], []⟩, ⟨1, [105, 113], [3, 4, 6, 7]⟩, ⟨2, [112, 114], [3, 4, 6, 7, 10]⟩])] := ⟨(.cons c48.g (.cons c49.g (.cons c50.g (.nil _))))⟩

def a8 (v : S8) : List T := [.int .u32 (v.a.toNat : Int), .int .u32 (v.b.toNat : Int), .int .u32 (v.c.toNat : Int), .int .u32 (v.d.toNat : Int), .int .u32 (v.e.toNat : Int), .int .u32 (v.f.toNat : Int), .int .u32 (v.g.toNat : Int), .int .u32 (v.h.toNat : Int)]
theorem a8_eq (v : S8) : v.l.map u32T = a8 v := rfl

theorem kS_len : kS.length = 64 := rfl

/-- The first so many numbers added. -/
def mixS (s v : S8) (i : Nat) : List T := ((s.add v).l.take i ++ s.l.drop i).map u32T
theorem mixS_len (s v : S8) : ∀ i, i ≤ 8 → (mixS s v i).length = 8
  | 0, _ => rfl | 1, _ => rfl | 2, _ => rfl | 3, _ => rfl | 4, _ => rfl | 5, _ => rfl | 6, _ => rfl | 7, _ => rfl | 8, _ => rfl
  | i + 9, h => by omega
theorem mixS_get (s v : S8) : ∀ i, i < 8 → (mixS s v i).getD i default = .int .u32 ((s.l.getD i 0).toNat : Int)
  | 0, _ => rfl | 1, _ => rfl | 2, _ => rfl | 3, _ => rfl | 4, _ => rfl | 5, _ => rfl | 6, _ => rfl | 7, _ => rfl
  | i + 8, h => by omega
theorem a8_get (v : S8) : ∀ i, i < 8 → (List.map u32T v.l).getD i default = .int .u32 ((v.l.getD i 0).toNat : Int)
  | 0, _ => rfl | 1, _ => rfl | 2, _ => rfl | 3, _ => rfl | 4, _ => rfl | 5, _ => rfl | 6, _ => rfl | 7, _ => rfl
  | i + 8, h => by omega
theorem mixS_set (s v : S8) : ∀ i, i < 8 → (mixS s v i).set i (.int .u32 ((s.l.getD i 0 + v.l.getD i 0).toNat : Int)) = mixS s v (i + 1)
  | 0, _ => rfl | 1, _ => rfl | 2, _ => rfl | 3, _ => rfl | 4, _ => rfl | 5, _ => rfl | 6, _ => rfl | 7, _ => rfl
  | i + 8, h => by omega
theorem mixS_0 (s v : S8) : mixS s v 0 = s.l.map u32T := rfl
theorem mixS_8 (s v : S8) : mixS s v 8 = (s.add v).l.map u32T := rfl

set_option maxHeartbeats 4000000 in
theorem g46 : GCon Try.prog 46 G46 := by
  refine gconc E_ok (rs := []) Try.func46 rfl Try.ntmps46 (by kernel_rfl) rfl (by decide) G46 (np := 2) ?_ ?_
  · intro HB xs h; unfold G46; split <;> first | rfl | (simp at h; done)
  intro HB xs H r hG hwf hex
  unfold G46 at hG
  split at hG <;> try (cases hG; done)
  · rename_i xs b
    split at hG
    case h_2 => cases hG
    rename_i s hs
    split at hG
    case isFalse => cases hG
    rename_i hb
    cases hG
    obtain rfl := asS8_inv hs
    have hsp : F48 [.by b] = some ([], .t (.ar 64 1 ((sch b 64).map u32T))) := if_pos hb
    repeat refine St (And.intro (And.intro @gentry.eq_1 <| @gentry.eq_2) <| And.intro hsp <| @F49.eq_def) ct46 ?_
    refine AWP.loop (G := { t : Nat // t ≤ 64 }) (fun t => ⟨[(0, .ptr 0 0 []), (4, .ptr 1 0 []), (5, .ptr 2 0 []), (6, .ptr 3 0 []), (19, .t (.int .i64 (t.1 : Int)))], [.bx (.t (.ar 8 1 (s.l.map u32T))), .bx (.t (.ar 64 1 ((sch b 64).map u32T))), .bx (.t (.ar 64 1 (kS.map u32T))), .bx (.t (.ar 8 1 ((rnds b s t.1).l.map u32T)))]⟩) (fun t => 64 - t.1) ⟨0, by omega⟩ ((Wt (And.intro @rnds.eq_1 <| @rnds.eq_2) [0, 4, 5, 6, 19] [0, 1, 2, 3])) ?_
    intro ⟨t, ht⟩
    dsimp only
    by_cases hlt : (t : Int) < 64
    case neg =>
      obtain rfl : t = 64 := by omega
      repeat refine St hlt ct46 ?_
      refine AWP.loop (G := { i : Nat // i ≤ 8 }) (fun i => ⟨[(0, .ptr 0 0 []), (6, .ptr 1 0 []), (101, .t (.int .i64 (i.1 : Int)))], [.bx (.t (.ar 8 1 (mixS s (rnds b s 64) i.1))), .bx (.t (.ar 8 1 ((rnds b s 64).l.map u32T)))]⟩) (fun i => 8 - i.1) ⟨0, by omega⟩ ((Wt @mixS_0 [0, 6, 101] [0, 3])) ?_
      intro ⟨i, hi⟩
      dsimp only
      generalize hv : rnds b s 64 = v
      by_cases hl8 : (i : Int) < 8
      case neg =>
        obtain rfl : i = 8 := by omega
        have hfin : blkS s b = s.add v := by rw [← hv]; rfl
        repeat refine St hl8 ct46 ?_
        exact Fin (And.intro @mixS_8 <| hfin) [] [0]
      have hi8 : i < 8 := by omega
      have hml := mixS_len s v i (by omega)
      have hvl : (List.map u32T v.l).length = 8 := rfl
      have g1 := mixS_get s v i hi8
      have g2 := a8_get v i hi8
      have g3 := mixS_set s v i hi8
      have hk1 : IntKind.i64.wrap ((i : Int) + 1) = ((i + 1 : Nat) : Int) := by rw [wrap_i64 (by omega) (by omega)]; omega
      repeat refine St (And.intro hl8 <| And.intro hi8 <| And.intro hml <| And.intro hvl <| And.intro g1 <| And.intro g2 <| And.intro g3 <| And.intro @u32_add <| And.intro hk1 <| @T.size.eq_def) ct46 ?_
      exact ⟨⟨i + 1, by omega⟩, (Wt trivial [0, 6, 101] [0, 1]), by simp only; omega⟩
    have ht64 : t < 64 := by omega
    have hk1 : IntKind.i64.wrap ((t : Int) + 1) = ((t + 1 : Nat) : Int) := by rw [wrap_i64 (by omega) (by omega)]; omega
    have hkl : (List.map u32T kS).length = 64 := by simp [kS_len]
    have hwl : (List.map u32T (sch b 64)).length = 64 := by simp [sch_len]
    have hkg : (List.map u32T kS).getD t default = .int .u32 ((kS.getD t 0).toNat : Int) := u32T_getD (by rw [kS_len]; exact ht64)
    have hwg : (List.map u32T (sch b 64)).getD t default = .int .u32 (((sch b 64).getD t 0).toNat : Int) := u32T_getD (by rw [sch_len]; exact ht64)
    have hnx : rnds b s (t + 1) = rnd (rnds b s t) (kS.getD t 0) ((sch b 64).getD t 0) := rfl
    generalize rnds b s t = v at *
    generalize kS.getD t 0 = k at *
    generalize (sch b 64).getD t 0 = w at *
    repeat refine St (And.intro hlt <| And.intro (a8_eq v) <| And.intro @a8.eq_def <| And.intro hkl <| And.intro hwl <| And.intro hkg <| And.intro hwg <| And.intro ht64 <| And.intro hk1 <| And.intro @rotc2 <| And.intro @rotc6 <| And.intro @rotc11 <| And.intro @rotc13 <| And.intro @rotc22 <| And.intro @rotc25 <| And.intro @u32_xor <| And.intro @u32_and <| And.intro @u32_add <| And.intro @u32_not <| @T.size.eq_def) ct46 ?_
    exact ⟨⟨t + 1, by omega⟩, (Wt (And.intro hnx <| And.intro @rnd.eq_def <| And.intro @t1S.eq_def <| And.intro @t2S.eq_def <| And.intro @S8.l.eq_def <| @u32T.eq_def) [0, 4, 5, 6, 19] [0, 1, 2, 3]), by simp only; omega⟩
  · rename_i xs r n b
    split at hG
    case h_2 => cases hG
    rename_i s hs
    split at hG
    case isFalse => cases hG
    rename_i hb
    cases hG
    obtain rfl := asS8_inv hs
    have hsp : F48 [.by b] = some ([], .t (.ar 64 1 ((sch b 64).map u32T))) := if_pos hb
    repeat refine St (And.intro (And.intro @gentry.eq_1 <| @gentry.eq_2) <| And.intro hsp <| @F49.eq_def) ct46 ?_
    refine AWP.loop (G := { t : Nat // t ≤ 64 }) (fun t => ⟨[(0, .ptr 0 0 [0]), (4, .ptr 1 0 []), (5, .ptr 2 0 []), (6, .ptr 3 0 []), (19, .t (.int .i64 (t.1 : Int)))], [.bx (.t (.st [.ar 8 1 (s.l.map u32T), .by r, .int .u64 n])), .bx (.t (.ar 64 1 ((sch b 64).map u32T))), .bx (.t (.ar 64 1 (kS.map u32T))), .bx (.t (.ar 8 1 ((rnds b s t.1).l.map u32T)))]⟩) (fun t => 64 - t.1) ⟨0, by omega⟩ ((Wt (And.intro @rnds.eq_1 <| @rnds.eq_2) [0, 4, 5, 6, 19] [0, 1, 2, 3])) ?_
    intro ⟨t, ht⟩
    dsimp only
    by_cases hlt : (t : Int) < 64
    case neg =>
      obtain rfl : t = 64 := by omega
      repeat refine St hlt ct46 ?_
      refine AWP.loop (G := { i : Nat // i ≤ 8 }) (fun i => ⟨[(0, .ptr 0 0 [0]), (6, .ptr 1 0 []), (101, .t (.int .i64 (i.1 : Int)))], [.bx (.t (.st [.ar 8 1 (mixS s (rnds b s 64) i.1), .by r, .int .u64 n])), .bx (.t (.ar 8 1 ((rnds b s 64).l.map u32T)))]⟩) (fun i => 8 - i.1) ⟨0, by omega⟩ ((Wt @mixS_0 [0, 6, 101] [0, 3])) ?_
      intro ⟨i, hi⟩
      dsimp only
      generalize hv : rnds b s 64 = v
      by_cases hl8 : (i : Int) < 8
      case neg =>
        obtain rfl : i = 8 := by omega
        have hfin : blkS s b = s.add v := by rw [← hv]; rfl
        repeat refine St hl8 ct46 ?_
        exact Fin (And.intro @mixS_8 <| hfin) [] [0]
      have hi8 : i < 8 := by omega
      have hml := mixS_len s v i (by omega)
      have hvl : (List.map u32T v.l).length = 8 := rfl
      have g1 := mixS_get s v i hi8
      have g2 := a8_get v i hi8
      have g3 := mixS_set s v i hi8
      have hk1 : IntKind.i64.wrap ((i : Int) + 1) = ((i + 1 : Nat) : Int) := by rw [wrap_i64 (by omega) (by omega)]; omega
      repeat refine St (And.intro hl8 <| And.intro hi8 <| And.intro hml <| And.intro hvl <| And.intro g1 <| And.intro g2 <| And.intro g3 <| And.intro @u32_add <| And.intro hk1 <| @T.size.eq_def) ct46 ?_
      exact ⟨⟨i + 1, by omega⟩, (Wt trivial [0, 6, 101] [0, 1]), by simp only; omega⟩
    have ht64 : t < 64 := by omega
    have hk1 : IntKind.i64.wrap ((t : Int) + 1) = ((t + 1 : Nat) : Int) := by rw [wrap_i64 (by omega) (by omega)]; omega
    have hkl : (List.map u32T kS).length = 64 := by simp [kS_len]
    have hwl : (List.map u32T (sch b 64)).length = 64 := by simp [sch_len]
    have hkg : (List.map u32T kS).getD t default = .int .u32 ((kS.getD t 0).toNat : Int) := u32T_getD (by rw [kS_len]; exact ht64)
    have hwg : (List.map u32T (sch b 64)).getD t default = .int .u32 (((sch b 64).getD t 0).toNat : Int) := u32T_getD (by rw [sch_len]; exact ht64)
    have hnx : rnds b s (t + 1) = rnd (rnds b s t) (kS.getD t 0) ((sch b 64).getD t 0) := rfl
    generalize rnds b s t = v at *
    generalize kS.getD t 0 = k at *
    generalize (sch b 64).getD t 0 = w at *
    repeat refine St (And.intro hlt <| And.intro (a8_eq v) <| And.intro @a8.eq_def <| And.intro hkl <| And.intro hwl <| And.intro hkg <| And.intro hwg <| And.intro ht64 <| And.intro hk1 <| And.intro @rotc2 <| And.intro @rotc6 <| And.intro @rotc11 <| And.intro @rotc13 <| And.intro @rotc22 <| And.intro @rotc25 <| And.intro @u32_xor <| And.intro @u32_and <| And.intro @u32_add <| And.intro @u32_not <| @T.size.eq_def) ct46 ?_
    exact ⟨⟨t + 1, by omega⟩, (Wt (And.intro hnx <| And.intro @rnd.eq_def <| And.intro @t1S.eq_def <| And.intro @t2S.eq_def <| And.intro @S8.l.eq_def <| @u32T.eq_def) [0, 4, 5, 6, 19] [0, 1, 2, 3]), by simp only; omega⟩

end Go.Fw

end

section
/- Chapter 7: New, Write, Len. -/
namespace Go.Fw
open Go Go.Proofs
set_option linter.unusedVariables false
set_option linter.unusedSimpArgs false

/-- A hash that goes on. -/
abbrev hB (s : S8) (r : List UInt8) (n : Nat) : Blk := .bx (.t (.st [.ar 8 1 (s.l.map u32T), .by r, .int .u64 (n : Int)]))

def F39 : Fun
  | [] => some ([.bx (.t (.st [.ar 8 1 (hS.map u32T), .by [], .int .u64 0]))], .ptr 0 0 [])
  | _ => none

theorem ct39 : CT [(45, ⟨[], treeG F45⟩)] [0] [] := ⟨(.cons c45.g (.nil _))⟩

theorem c39 : ACon Try.prog 39 F39 := by
  refine aconc E_ok (rs := [.tmp 0 61]) Try.func39 rfl Try.ntmps39 (by kernel_rfl) rfl (by decide) F39 (np := 0) ?_ ?_
  · intro ts h; unfold F39; split <;> first | rfl | (simp at h; done)
  intro ts H r hF hwf
  unfold F39 at hF
  split at hF <;> try (cases hF; done)
  cases hF
  repeat refine St @F45.eq_def ct39 ?_
  refine AWP.weak (Wn 0 [1] 8 (.by [])) ?_
  exact AWP.ret (Fin trivial [] [0])

/-- The eight numbers behind so many blocks of some bytes. -/
def eatS (s : S8) (l : List UInt8) : Nat → S8
  | 0 => s
  | k + 1 => blkS (eatS s l k) ((l.drop (64 * k)).take 64)

theorem take_c1 (s : S8) {b : List UInt8} (h : b.length = 64) : G46 [.bx (.t (.ar 8 1 (s.l.map u32T)))] [.ptr 0 0 [], .t (.by b)] = some ([.bx (.t (.ar 8 1 ((blkS s b).l.map u32T)))], .tup []) := by
  simp only [G46, asS8_map]; rw [if_pos h]
theorem take_c2 (s : S8) (r : List UInt8) (n : Int) {b : List UInt8} (h : b.length = 64) : G46 [.bx (.t (.st [.ar 8 1 (s.l.map u32T), .by r, .int .u64 n]))] [.ptr 0 0 [0], .t (.by b)] = some ([.bx (.t (.st [.ar 8 1 ((blkS s b).l.map u32T), .by r, .int .u64 n]))], .tup []) := by
  simp only [G46, asS8_map]; rw [if_pos h]

noncomputable def G40 : GFun
  | [], [.t .nilp, .t (.by b)] => some ([], .tup [])
  | [.bx (.t (.st [.ar 8 1 xs, .by r, .int .u64 n]))], [.ptr 0 0 [], .t (.by b)] => match asS8 xs with
    | some s => if 0 ≤ n ∧ n ≤ 1000000000000 ∧ r.length ≤ 64 ∧ b.length ≤ 1000000000 then
        some ([.bx (.t (.st [.ar 8 1 ((eatS s (r ++ b) ((r ++ b).length / 64)).l.map u32T), .by ((r ++ b).drop (64 * ((r ++ b).length / 64))), .int .u64 (n + b.length)]))], .tup []) else none
    | none => none
  | _, _ => none

theorem ct40 : CT [(46, ⟨[true, false], G46⟩)] [0, 1, 5, 41] [(2, [⟨0, [0], []⟩, ⟨0, [0], []⟩, ⟨0, [17], []⟩, ⟨0, [18], []⟩, ⟨1, [19], []⟩, ⟨0, [0], []⟩, ⟨0, [21], []⟩, ⟨0, [22], []⟩, ⟨1, [23], []⟩, ⟨1, [24], [8]⟩, ⟨0, [0], []⟩, ⟨0, [26], []⟩, ⟨0, [27], []⟩, ⟨1, [28], []⟩, ⟨1, [29], [13]⟩, ⟨1, [20, 25, 30], [4, 8, 9, 13, 14]⟩, ⟨0, [1], []⟩, ⟨2, [31, 32], [4, 8, 9, 13, 14, 15]⟩, ⟨0, [16], [4, 8, 9, 13, 14, 15, 17]⟩, ⟨0, [34], [4, 8, 9, 13, 14, 15, 17]⟩, ⟨2, [33, 35], [4, 8, 9, 13, 14, 15, 17]⟩]), (4, [⟨0, [0], []⟩, ⟨0, [42], []⟩, ⟨0, [43], []⟩, ⟨0, [0], []⟩, ⟨0, [45], []⟩, ⟨0, [46], []⟩, ⟨1, [47], []⟩, ⟨1, [48], [6]⟩, ⟨2, [44, 49], [6, 7]⟩])] := ⟨(.cons g46 (.nil _))⟩


set_option maxHeartbeats 1000000 in
theorem g40 : GCon Try.prog 40 G40 := by
  refine gconc E_ok (rs := []) Try.func40 rfl Try.ntmps40 (by kernel_rfl) rfl (by decide) G40 (np := 2) ?_ ?_
  · intro HB xs h; unfold G40; split <;> first | rfl | (simp at h; done)
  intro HB xs H r hG hwf hex
  unfold G40 at hG
  split at hG <;> try (cases hG; done)
  · cases hG
    repeat refine St (And.intro @gentry.eq_1 <| @gentry.eq_2) ct40 ?_
    exact AWP.ret (Fin trivial [] [])
  · rename_i xs r n b
    split at hG
    case h_2 => cases hG
    rename_i s hs
    split at hG
    case isFalse => cases hG
    rename_i hc
    obtain ⟨hn0, hn1, hr, hb⟩ := hc
    cases hG
    obtain rfl := asS8_inv hs
    have hw1 : IntKind.u64.wrap (b.length : Int) = (b.length : Int) := wrap_u64 (by omega) (by omega)
    have hw2 : IntKind.u64.wrap (n + (b.length : Int)) = n + (b.length : Int) := wrap_u64 (by omega) (by omega)
    have hr1 : r.length ≤ r.length := Nat.le_refl _
    repeat refine St (And.intro (And.intro @gentry.eq_1 <| @gentry.eq_2) <| And.intro hw1 <| And.intro hw2 <| And.intro hr <| hb) ct40 ?_
    obtain ⟨N, hN⟩ : ∃ N, n + (b.length : Int) = N := ⟨_, rfl⟩
    rw [hN]
    have hrl : (r ++ b).length ≤ 2000000000 := by simp; omega
    obtain ⟨l, hl⟩ : ∃ l, r ++ b = l := ⟨_, rfl⟩
    rw [hl] at hrl ⊢
    refine AWP.loop (G := { k : Nat // 64 * k ≤ l.length }) (fun k => ⟨[(0, .ptr 0 0 [])], [.bx (.t (.st [.ar 8 1 ((eatS s l k.1).l.map u32T), .by (l.drop (64 * k.1)), .int .u64 N]))]⟩) (fun k => l.length - 64 * k.1) ⟨0, by omega⟩ ((Wt (And.intro (And.intro @eatS.eq_1 <| @eatS.eq_2) <| @Nat.mul_zero) [0] [0])) ?_
    intro ⟨k, hk⟩
    dsimp only
    have hdl : (l.drop (64 * k)).length = l.length - 64 * k := by simp
    have hnx : eatS s l (k + 1) = blkS (eatS s l k) ((l.drop (64 * k)).take 64) := rfl
    obtain ⟨v, hv⟩ : ∃ v, eatS s l k = v := ⟨_, rfl⟩
    rw [hv] at hnx ⊢
    have hdd : (l.drop (64 * k)).drop 64 = l.drop (64 * (k + 1)) := by rw [List.drop_drop]; congr 1
    obtain ⟨d, hd⟩ : ∃ d, l.drop (64 * k) = d := ⟨_, rfl⟩
    rw [hd] at hdd hdl hnx ⊢
    by_cases h64 : 64 ≤ (d.length : Int)
    · have h64' : 64 ≤ d.length := by omega
      have htl : (d.take 64).length = 64 := by simp; omega
      have htk := take_c2 v d N htl
      repeat refine St (And.intro h64 <| And.intro h64' <| And.intro hdd <| htk) ct40 ?_
      exact ⟨⟨k + 1, by omega⟩, (Wt hnx [0] [0]), by simp only; omega⟩
    · obtain rfl : k = l.length / 64 := by omega
      repeat refine St h64 ct40 ?_
      exact Fin (And.intro hv <| hd) [] [0]

end Go.Fw

end

section
/- Chapter 7: the hash's end. -/
namespace Go.Fw
open Go Go.Proofs
set_option linter.unusedVariables false
set_option linter.unusedSimpArgs false

/-- How many noughts are put behind so many bytes and one. -/
def padK (m : Nat) : Nat := (119 - m % 64) % 64
def beB (N j : Nat) : UInt8 := UInt8.ofNat (N / 2 ^ (56 - 8 * j))
def be8 (N j : Nat) : List UInt8 := (List.range j).map (beB N)
theorem be8_snoc (N j : Nat) : be8 N j ++ [beB N j] = be8 N (j + 1) := by simp [be8, List.range_succ]
theorem be8_len (N j : Nat) : (be8 N j).length = j := by simp [be8]
def padS (r : List UInt8) (n : Nat) : List UInt8 := r ++ (128 :: repl (padK r.length) 0) ++ be8 (n * 8) 8
theorem padS_len (r : List UInt8) (n : Nat) : (padS r n).length % 64 = 0 := by
  simp only [padS, List.length_append, List.length_cons, repl_len, be8_len, padK]; omega

def outB (s : S8) (p : Nat) : UInt8 := ((s.l.getD (p / 4) 0) >>> UInt32.ofNat (24 - 8 * (p % 4))).toUInt8
def outM (s : S8) (p : Nat) : List UInt8 := (List.range 32).map fun j => if j < p then outB s j else 0
def outS (s : S8) : List UInt8 := (List.range 32).map (outB s)
theorem outM_0 (s : S8) : outM s 0 = zby 32 := rfl
theorem outM_32 (s : S8) : outM s 32 = outS s := by
  simp only [outM, outS]
  apply List.map_congr_left
  intro j hj
  rw [if_pos (by simpa using hj)]
theorem outM_len (s : S8) (p : Nat) : (outM s p).length = 32 := by simp [outM]
theorem outM_set (s : S8) {p : Nat} (h : p < 32) : (outM s p).set p (outB s p) = outM s (p + 1) := by
  apply List.ext_getElem
  · simp [outM]
  · intro j h1 h2
    simp only [List.length_set, outM_len] at h1
    rw [List.getElem_set]
    simp only [outM, List.getElem_map, List.getElem_range]
    by_cases e : p = j
    · subst e; simp
    · simp only [e, if_false]
      by_cases h3 : j < p
      · rw [if_pos h3, if_pos (by omega)]
      · rw [if_neg h3, if_neg (by omega)]

/-- The hash of what was taken, and of what is left. -/
def finS (s : S8) (r : List UInt8) (n : Nat) : List UInt8 := outS (eatS s (padS r n) ((padS r n).length / 64))

noncomputable def G41r : GFun
  | [.bx (.t (.st [.ar 8 1 xs, .by r, .int .u64 n]))], [.ptr 0 0 []] => match asS8 xs with
    | some s => if 0 ≤ n ∧ n ≤ 1000000000000 ∧ r.length ≤ 64 then some ([.bx (.t (.st [.ar 8 1 xs, .by r, .int .u64 n]))], .t (.ba 32 (finS s r n.toNat))) else none
    | none => none
  | _, _ => none

theorem ct41 : CT [(39, ⟨[], treeG F39⟩), (46, ⟨[true, false], G46⟩)] [0, 2, 3, 4, 5, 6, 7, 8, 9, 10, 12, 27, 37, 53, 59, 60, 61, 64, 65] [] := ⟨(.cons c39.g (.cons g46 (.nil _)))⟩

theorem beB_eq (n j : Nat) (h : n ≤ 1000000000000) (hj : j < 8) : UInt8.ofNat (IntKind.u8.wrap (Int.fdiv ((n * 8 : Nat) : Int) (2 ^ (min (56 - 8 * j) IntKind.u64.bits)))).toNat = beB (n * 8) j := by
  have e : min (56 - 8 * j) IntKind.u64.bits = 56 - 8 * j := by rw [bits_u64]; omega
  rw [e, Int.fdiv_eq_ediv_of_nonneg _ (by exact_mod_cast Nat.zero_le _)]
  have e2 : (2 : Int) ^ (56 - 8 * j) = ((2 ^ (56 - 8 * j) : Nat) : Int) := by rw [Int.natCast_pow]; rfl
  rw [e2, ← Int.natCast_ediv, wrapu8]
  unfold beB
  generalize n * 8 / 2 ^ (56 - 8 * j) = m
  have : ((m : Int) % 256).toNat = m % 256 := by omega
  rw [this]
  apply UInt8.toNat_inj.1
  simp

set_option maxHeartbeats 2000000 in
theorem g41r : GCon Try.prog 41 G41r := by
  refine gconc E_ok (rs := [.cell 2 56]) Try.func41 rfl Try.ntmps41 (by kernel_rfl) rfl (by decide) G41r (np := 1) ?_ ?_
  · intro HB xs h; unfold G41r; split <;> first | rfl | (simp at h; done)
  intro HB xs H r hG hwf hex
  unfold G41r at hG
  split at hG <;> try (cases hG; done)
  rename_i xs r n
  split at hG
  case h_2 => cases hG
  rename_i s hs
  split at hG
  case isFalse => cases hG
  rename_i hc
  obtain ⟨hn0, hn1, hr⟩ := hc
  cases hG
  obtain rfl := asS8_inv hs
  obtain ⟨N, rfl⟩ : ∃ N : Nat, n = (N : Int) := ⟨n.toNat, by omega⟩
  simp only [Int.toNat_natCast]
  have e128 : ∀ l : List UInt8, (l ++ [128]).length = l.length + 1 := fun l => by simp
  repeat refine St (And.intro (And.intro @gentry.eq_1 <| @gentry.eq_2) <| And.intro hr <| e128) ct41 ?_
  have hp64 : (r ++ UInt8.ofNat 128 :: repl (padK r.length) 0).length % 64 = 56 := by simp only [List.length_append, List.length_cons, repl_len, padK]; omega
  refine AWP.loop (G := { k : Nat // k ≤ padK r.length }) (fun k => ⟨[(0, .ptr 0 0 []), (2, .ptr 1 0 []), (3, .own 2)], [hB s r N, .bx (.t (.ba 32 (zby 32))), .by (r ++ (UInt8.ofNat 128 :: repl k.1 0))]⟩) (fun k => padK r.length - k.1) ⟨0, by omega⟩ ((Wt @repl_0 [0, 2, 3] [0, 1, 5])) ?_
  intro ⟨k, hk⟩
  dsimp only
  obtain ⟨L, hL⟩ : ∃ L, r ++ (UInt8.ofNat 128 :: repl k (0 : UInt8)) = L := ⟨_, rfl⟩
  have hLl : L.length = r.length + 1 + k := by rw [← hL]; simp only [List.length_append, List.length_cons, repl_len]; omega
  have hnx : L ++ [UInt8.ofNat 0] = r ++ (UInt8.ofNat 128 :: repl (k + 1) 0) := by rw [← hL, ← repl_snoc]; simp
  rw [hL]
  have hrem : IntKind.i64.wrap (Int.tmod (L.length : Int) 64) = ((L.length % 64 : Nat) : Int) := by
    have : Int.tmod (L.length : Int) 64 = ((L.length % 64 : Nat) : Int) := by rw [Int.tmod_eq_emod_of_nonneg (by omega)]; omega
    rw [this, wrap_i64 (by omega) (by omega)]
  have hkK : padK r.length = (119 - r.length % 64) % 64 := rfl
  have hLs : L.length ≤ 200 := by omega
  by_cases hd : L.length % 64 = 56
  · have hkk : k = padK r.length := by omega
    have hd' : (((L.length % 64 : Nat) : Int) != 56) = false := by simp; omega
    rw [← hkk] at hp64
    have hpad : padS r N = L ++ be8 (N * 8) 8 := by rw [← hL, hkk]; rfl
    have hmul : IntKind.u64.wrap ((N : Int) * 8) = ((N * 8 : Nat) : Int) := by rw [wrap_u64 (by omega) (by omega)]; omega
    repeat refine St (And.intro hrem <| And.intro hd' <| hmul) ct41 ?_
    have hLs' : L.length ≤ 200 := by omega
    refine AWP.loop (G := { x : Nat × Int // x.1 ≤ 8 ∧ x.2 = 56 - 8 * (x.1 : Int) }) (fun x => ⟨[(0, .ptr 0 0 []), (2, .ptr 1 0 []), (3, .own 2), (4, .t (.int .u64 ((N * 8 : Nat) : Int))), (5, .t (.int .i64 x.1.2))], [hB s r N, .bx (.t (.ba 32 (zby 32))), .by (L ++ be8 (N * 8) x.1.1)]⟩) (fun x => 8 - x.1.1) ⟨(0, 56), by omega, rfl⟩ ((Wt (show be8 (N * 8) 0 = [] from rfl) [0, 2, 3, 4, 5] [0, 1, 2])) ?_
    intro ⟨⟨j, q⟩, hj, hq⟩
    dsimp only at hj hq ⊢
    have hbl := be8_len (N * 8) j
    by_cases hq0 : 0 ≤ q
    · have hj8 : j < 8 := by omega
      have hqn : q = ((56 - 8 * j : Nat) : Int) := by omega
      have hbyte := beB_eq N j (by omega) hj8
      have hqt : q.toNat = 56 - 8 * j := by omega
      have hq0' : ¬ q < 0 := by omega
      have hk8 : IntKind.i64.wrap (q - 8) = q - 8 := wrap_i64 (by omega) (by omega)
      have hal : (L ++ be8 (N * 8) j).length ≤ 300 := by simp [hbl]; omega
      have hsn : (L ++ be8 (N * 8) j) ++ [beB (N * 8) j] = L ++ be8 (N * 8) (j + 1) := by rw [List.append_assoc, be8_snoc]
      obtain ⟨M, hM⟩ : ∃ M, L ++ be8 (N * 8) j = M := ⟨_, rfl⟩
      rw [hM] at hal hsn ⊢
      repeat refine St (And.intro hq0 <| And.intro hq0' <| And.intro hqt <| And.intro hbyte <| And.intro hk8 <| hal) ct41 ?_
      exact ⟨⟨(j + 1, q - 8), by omega, by simp only; omega⟩, (Wt hsn [0, 2, 3, 4, 5] [0, 1, 4]), by simp only; omega⟩
    · obtain rfl : j = 8 := by omega
      rw [← hpad]
      have hpl := padS_len r N
      have hfin : finS s r N = outS (eatS s (padS r N) ((padS r N).length / 64)) := rfl
      have hps : (padS r N).length ≤ 300 := by rw [hpad]; simp [hbl]; omega
      obtain ⟨P, hP⟩ : ∃ P, padS r N = P := ⟨_, rfl⟩
      rw [hP] at hpl hfin hps ⊢
      repeat refine St (And.intro hq0 <| @T.size.eq_def) ct41 ?_
      refine AWP.weak (Weak.freeze 2) ?_
      refine AWP.weak (Weak.thawS (y := .by P) 3 rfl) ?_
      refine AWP.loop (G := { k : Nat // 64 * k ≤ P.length }) (fun k => ⟨[(2, .ptr 1 0 []), (3, .t (.by (P.drop (64 * k.1)))), (6, .ptr 2 0 [])], [hB s r N, .bx (.t (.ba 32 (zby 32))), .bx (.t (.ar 8 1 ((eatS s P k.1).l.map u32T)))]⟩) (fun k => P.length - 64 * k.1) ⟨0, by omega⟩ ((Wt (And.intro @freezeOne.eq_def <| And.intro (And.intro @eatS.eq_1 <| @eatS.eq_2) <| @Nat.mul_zero) [2, 3, 6] [0, 1, 3])) ?_
      intro ⟨k, hk⟩
      dsimp only
      have hdl : (P.drop (64 * k)).length = P.length - 64 * k := by simp
      have hnx : eatS s P (k + 1) = blkS (eatS s P k) ((P.drop (64 * k)).take 64) := rfl
      have hdd : (P.drop (64 * k)).drop 64 = P.drop (64 * (k + 1)) := by rw [List.drop_drop]; congr 1
      obtain ⟨v, hv⟩ : ∃ v, eatS s P k = v := ⟨_, rfl⟩
      obtain ⟨d, hd⟩ : ∃ d, P.drop (64 * k) = d := ⟨_, rfl⟩
      rw [hv, hd] at hnx
      rw [hd] at hdl hdd
      rw [hv, hd]
      by_cases h64 : 0 < (d.length : Int)
      · have h64' : 64 ≤ d.length := by omega
        have h64i : 64 ≤ (d.length : Int) := by omega
        have htl : (d.take 64).length = 64 := by simp; omega
        have htk := take_c1 v htl
        repeat refine St (And.intro h64 <| And.intro h64' <| And.intro h64i <| And.intro hdd <| htk) ct41 ?_
        exact ⟨⟨k + 1, by omega⟩, (Wt hnx [2, 3, 6] [0, 1, 2]), by simp only; omega⟩
      · have hkk : k = P.length / 64 := by omega
        rw [← hkk, hv] at hfin
        repeat refine St h64 ct41 ?_
        refine AWP.loop (G := { i : Nat // i ≤ 8 }) (fun i => ⟨[(2, .ptr 1 0 []), (7, .ptr 2 0 []), (59, .t (.ar 8 1 (v.l.map u32T))), (60, .t (.int .i64 (i.1 : Int)))], [hB s r N, .bx (.t (.ba 32 (zby 32))), .bx (.t (.ba 32 (outM v (4 * i.1))))]⟩) (fun i => 8 - i.1) ⟨0, by omega⟩ ((Wt (And.intro @Nat.mul_zero <| @outM_0) [2, 7, 59, 60] [0, 1, 3])) ?_
        intro ⟨i, hi⟩
        dsimp only
        by_cases hi8 : (i : Int) < 8
        case neg =>
          obtain rfl : i = 8 := by omega
          have ho := outM_32 v
          have hol := outM_len v 32
          repeat refine St (And.intro hi8 <| And.intro @T.size.eq_def <| And.intro (show 4 * 8 = 32 from rfl) <| ho) ct41 ?_
          exact AWP.ret (Fin hfin [] [0])
        have hi8' : i < 8 := by omega
        have hvl : (List.map u32T v.l).length = 8 := rfl
        have hvg := a8_get v i hi8'
        have hki : IntKind.i64.wrap ((i : Int) + 1) = ((i + 1 : Nat) : Int) := by rw [wrap_i64 (by omega) (by omega)]; omega
        repeat refine St (And.intro hi8 <| And.intro hi8' <| And.intro hvl <| hvg) ct41 ?_
        refine AWP.loop (G := { j : Nat // j ≤ 4 }) (fun j => ⟨[(2, .ptr 1 0 []), (7, .ptr 2 0 []), (8, .t (.int .i64 (i : Int))), (9, .t (.int .u32 ((v.l.getD i 0).toNat : Int))), (59, .t (.ar 8 1 (v.l.map u32T))), (60, .t (.int .i64 (i : Int))), (64, .t (.int .i64 (j.1 : Int)))], [hB s r N, .bx (.t (.ba 32 (zby 32))), .bx (.t (.ba 32 (outM v (4 * i + j.1))))]⟩) (fun j => 4 - j.1) ⟨0, by omega⟩ ((Wt trivial [2, 7, 8, 9, 59, 60, 64] [0, 1, 2])) ?_
        intro ⟨j, hj⟩
        dsimp only
        by_cases hj4 : (j : Int) < 4
        · have hj4' : j < 4 := by omega
          have hm4 : IntKind.i64.wrap (4 * (i : Int)) = ((4 * i : Nat) : Int) := by rw [wrap_i64 (by omega) (by omega)]; omega
          have hm4j : IntKind.i64.wrap (((4 * i : Nat) : Int) + (j : Int)) = ((4 * i + j : Nat) : Int) := by rw [wrap_i64 (by omega) (by omega)]; omega
          have hm8 : IntKind.i64.wrap (8 * (j : Int)) = ((8 * j : Nat) : Int) := by rw [wrap_i64 (by omega) (by omega)]; omega
          have hm24 : IntKind.i64.wrap (24 - ((8 * j : Nat) : Int)) = ((24 - 8 * j : Nat) : Int) := by rw [wrap_i64 (by omega) (by omega)]; omega
          have hnn : ¬ ((24 - 8 * j : Nat) : Int) < 0 := by omega
          have hsh := u32_shr (v.l.getD i 0) (24 - 8 * j) (by omega)
          have hob : ((v.l.getD i 0) >>> UInt32.ofNat (24 - 8 * j)).toUInt8 = outB v (4 * i + j) := by
            unfold outB
            rw [show (4 * i + j) / 4 = i by omega, show (4 * i + j) % 4 = j by omega]
          have hp32 : 4 * i + j < 32 := by omega
          have hp32i : ((4 * i + j : Nat) : Int) < 32 := by omega
          have hset := outM_set v hp32
          have hol := outM_len v (4 * i + j)
          have hkj : IntKind.i64.wrap ((j : Int) + 1) = ((j + 1 : Nat) : Int) := by rw [wrap_i64 (by omega) (by omega)]; omega
          have hof : ∀ c : UInt8, UInt8.ofNat c.toNat = c := fun c => by simp
          obtain ⟨p, hp⟩ : ∃ p, 4 * i + j = p := ⟨_, rfl⟩
          have hpn : p + 1 = 4 * i + (j + 1) := by omega
          rw [hp] at hm4j hob hp32 hp32i hset hol ⊢
          repeat refine St (And.intro hj4 <| And.intro hj4' <| And.intro hm4 <| And.intro hm4j <| And.intro hm8 <| And.intro hm24 <| And.intro hnn <| And.intro hsh <| And.intro @u8_of_u32 <| And.intro hob <| And.intro hp32 <| And.intro hp32i <| And.intro hof <| And.intro hset <| And.intro hol <| And.intro hkj <| @T.size.eq_def) ct41 ?_
          exact ⟨⟨j + 1, by omega⟩, (Wt hpn [2, 7, 8, 9, 59, 60, 64] [0, 1, 2]), by simp only; omega⟩
        · obtain rfl : j = 4 := by omega
          have hpn : 4 * i + 4 = 4 * (i + 1) := by omega
          repeat refine St (And.intro hj4 <| hki) ct41 ?_
          exact ⟨⟨i + 1, by omega⟩, (Wt hpn [2, 7, 59, 60] [0, 1, 2]), by simp only; omega⟩
  · have hd' : (((L.length % 64 : Nat) : Int) != 56) = true := by simp; omega
    repeat refine St (And.intro hrem <| And.intro hd' <| hLs) ct41 ?_
    exact ⟨⟨k + 1, by omega⟩, (Wt hnx [0, 2, 3] [0, 1, 4]), by simp only; omega⟩

end Go.Fw

end

section
/- Chapter 7: the hash of a whole message. -/
namespace Go.Fw
open Go Go.Proofs
set_option linter.unusedVariables false
set_option linter.unusedSimpArgs false

theorem eatS_app (s : S8) (l m : List UInt8) : ∀ k, 64 * k ≤ l.length → eatS s (l ++ m) k = eatS s l k
  | 0, _ => rfl
  | k + 1, h => by
    simp only [eatS]
    rw [eatS_app s l m k (by omega), List.drop_append_of_le_length (by omega), List.take_append_of_le_length (by simp; omega)]
theorem eatS_add (s : S8) (l : List UInt8) (k : Nat) : ∀ j, eatS (eatS s l k) (l.drop (64 * k)) j = eatS s l (k + j)
  | 0 => rfl
  | j + 1 => by
    rw [show k + (j + 1) = (k + j) + 1 by omega]
    simp only [eatS]
    rw [eatS_add s l k j, List.drop_drop]
    congr 3; omega

/-- A hash behind some bytes. -/
def restS (l : List UInt8) : List UInt8 := l.drop (64 * (l.length / 64))
def eatenS (l : List UInt8) : S8 := eatS h0S l (l.length / 64)
abbrev msgB (l : List UInt8) : Blk := hB (eatenS l) (restS l) l.length
def shaL (l : List UInt8) : List UInt8 := finS h0S l l.length

theorem restS_len (l : List UInt8) : (restS l).length ≤ 64 := by simp [restS]; omega
theorem rest_app (l b : List UInt8) : restS l ++ b = (l ++ b).drop (64 * (l.length / 64)) := by
  unfold restS; rw [List.drop_append_of_le_length (by omega)]

theorem write_c (l b : List UInt8) (h : l.length ≤ 1000000000000) (hb : b.length ≤ 1000000000) :
    G40 [.bx (.t (.st [.ar 8 1 ((eatenS l).l.map u32T), .by (restS l), .int .u64 (l.length : Int)]))] [.ptr 0 0 [], .t (.by b)] = some ([msgB (l ++ b)], .tup []) := by
  simp only [G40, asS8_map]
  rw [if_pos ⟨by omega, by omega, restS_len l, hb⟩]
  have hq : (l ++ b).length / 64 = l.length / 64 + (restS l ++ b).length / 64 := by simp [restS]; omega
  have h1 : eatS (eatenS l) (restS l ++ b) ((restS l ++ b).length / 64) = eatenS (l ++ b) := by
    unfold eatenS
    rw [hq, ← eatS_add, rest_app l b, eatS_app h0S l b _ (by omega)]
  have h2 : (restS l ++ b).drop (64 * ((restS l ++ b).length / 64)) = restS (l ++ b) := by
    show _ = (l ++ b).drop (64 * ((l ++ b).length / 64))
    rw [hq, rest_app l b, List.drop_drop]; congr 1; omega
  rw [h1, h2]
  simp only [msgB, hB, List.length_append, Int.natCast_add]

theorem fin_c (l : List UInt8) : finS (eatenS l) (restS l) l.length = shaL l := by
  have hk : padK (restS l).length = padK l.length := by simp [restS, padK]; omega
  have hp : padS (restS l) l.length = (padS l l.length).drop (64 * (l.length / 64)) := by
    simp only [padS, hk]
    rw [List.append_assoc, rest_app, List.append_assoc]
  have hl : (padS l l.length).length / 64 = l.length / 64 + (padS (restS l) l.length).length / 64 := by
    rw [hp]
    have : l.length ≤ (padS l l.length).length := by simp only [padS, List.length_append]; omega
    simp only [List.length_drop]; omega
  have he : eatenS l = eatS h0S (padS l l.length) (l.length / 64) := by
    simp only [eatenS, padS]
    rw [List.append_assoc, eatS_app h0S l _ _ (by omega)]
  simp only [shaL, finS]
  rw [hl, ← eatS_add, ← he, ← hp]

noncomputable def G41 : GFun
  | [], [.t .nilp] => some ([], .t (.ba 32 (shaL [])))
  | [.bx (.t (.st [.ar 8 1 xs, .by r, .int .u64 n]))], [.ptr 0 0 []] => G41r [.bx (.t (.st [.ar 8 1 xs, .by r, .int .u64 n]))] [.ptr 0 0 []]
  | _, _ => none

theorem sum_c (l : List UInt8) (h : l.length ≤ 1000000000000) :
    G41r [.bx (.t (.st [.ar 8 1 ((eatenS l).l.map u32T), .by (restS l), .int .u64 (l.length : Int)]))] [.ptr 0 0 []] = some ([msgB l], .t (.ba 32 (shaL l))) := by
  simp only [G41r, asS8_map]
  rw [if_pos ⟨by omega, by omega, restS_len l⟩, Int.toNat_natCast, fin_c]
theorem sum_0 : G41r [.bx (.t (.st [.ar 8 1 (hS.map u32T), .by [], .int .u64 0]))] [.ptr 0 0 []] = some ([.bx (.t (.st [.ar 8 1 (hS.map u32T), .by [], .int .u64 0]))], .t (.ba 32 (shaL []))) := sum_c [] (by simp)

theorem ct41b : CT [(39, ⟨[], treeG F39⟩), (41, ⟨[true], G41r⟩), (46, ⟨[true, false], G46⟩)] [0, 2, 3, 4, 5, 6, 7, 8, 9, 10, 12, 27, 37, 53, 59, 60, 61, 64, 65] [] := ⟨(.cons c39.g (.cons g41r (.cons g46 (.nil _))))⟩

noncomputable def G41n : GFun
  | [], [.t .nilp] => some ([], .t (.ba 32 (shaL [])))
  | _, _ => none

theorem g41n : GCon Try.prog 41 G41n := by
  refine gconc E_ok (rs := [.cell 2 56]) Try.func41 rfl Try.ntmps41 (by kernel_rfl) rfl (by decide) G41n (np := 1) ?_ ?_
  · intro HB xs h; unfold G41n; split <;> first | rfl | (simp at h; done)
  intro HB xs H r hG hwf hex
  unfold G41n at hG
  split at hG <;> try (cases hG; done)
  
  cases hG
  repeat refine St (And.intro @F39.eq_def <| And.intro (And.intro @gentry.eq_1 <| @gentry.eq_2) <| @sum_0) ct41b ?_
  exact AWP.ret (Fin trivial [] [])


theorem g41 : GCon Try.prog 41 G41 := by
  refine ⟨g41r.1, fun HB xs H' r hG => ?_⟩
  unfold G41 at hG
  split at hG
  · exact g41n.2 [] [.t .nilp] H' r hG
  · exact g41r.2 _ _ H' r hG
  · cases hG

end Go.Fw

end

section
/- Chapter 7: Sum, Double, Tagged. -/
namespace Go.Fw
open Go Go.Proofs
set_option linter.unusedVariables false
set_option linter.unusedSimpArgs false

theorem shaL_len (l : List UInt8) : (shaL l).length = 32 := by simp [shaL, finS, outS]

noncomputable def F36 : Fun
  | [.by b] => if b.length ≤ 1000000000 then some ([], .t (.ba 32 (shaL b))) else none
  | _ => none

theorem ct36 : CT [(39, ⟨[], treeG F39⟩), (40, ⟨[true, false], G40⟩), (41, ⟨[true], G41⟩)] [0, 2, 3] [] := ⟨(.cons c39.g (.cons g40 (.cons g41 (.nil _))))⟩

theorem msg_0 : msgB [] = .bx (.t (.st [.ar 8 1 (hS.map u32T), .by [], .int .u64 0])) := rfl

theorem c36 : ACon Try.prog 36 F36 := by
  refine aconc E_ok (rs := [.cell 2 56]) Try.func36 rfl Try.ntmps36 (by kernel_rfl) rfl (by decide) F36 (np := 1) ?_ ?_
  · intro ts h; unfold F36; split <;> first | rfl | (simp at h; done)
  intro ts H r hF hwf
  unfold F36 at hF
  split at hF <;> try (cases hF; done)
  rename_i b
  split at hF
  case isFalse => cases hF
  rename_i hb
  cases hF
  have hw : G40 [.bx (.t (.st [.ar 8 1 (hS.map u32T), .by [], .int .u64 0]))] [.ptr 0 0 [], .t (.by b)] = some ([msgB b], .tup []) := write_c [] b (by simp) hb
  have hs : G41 [msgB b] [.ptr 0 0 []] = some ([msgB b], .t (.ba 32 (shaL b))) := sum_c b (by omega)
  repeat refine St (And.intro @F39.eq_def <| hw) ct36 ?_
  repeat refine St hs ct36 ?_
  exact AWP.ret (Fin trivial [] [])

theorem shasum_c {b : List UInt8} (h : b.length ≤ 1000000000) : F36 [.by b] = some ([], .t (.ba 32 (shaL b))) := if_pos h

noncomputable def F31 : Fun
  | [.by b] => if b.length ≤ 1000000000 then some ([], .t (.ba 32 (shaL (shaL b)))) else none
  | _ => none

theorem ct31 : CT [(36, ⟨[false], treeG F36⟩)] [0, 2, 3] [] := ⟨(.cons c36.g (.nil _))⟩

theorem c31 : ACon Try.prog 31 F31 := by
  refine aconc E_ok (rs := [.cell 2 56]) Try.func31 rfl Try.ntmps31 (by kernel_rfl) rfl (by decide) F31 (np := 1) ?_ ?_
  · intro ts h; unfold F31; split <;> first | rfl | (simp at h; done)
  intro ts H r hF hwf
  unfold F31 at hF
  split at hF <;> try (cases hF; done)
  rename_i b
  split at hF
  case isFalse => cases hF
  rename_i hb
  cases hF
  have h1 := shasum_c hb
  have hl := shaL_len b
  have h2 : F36 [.by (shaL b)] = some ([], .t (.ba 32 (shaL (shaL b)))) := shasum_c (by omega)
  generalize shaL (shaL b) = y at *
  obtain ⟨x, hx⟩ : ∃ x, shaL b = x := ⟨_, rfl⟩
  rw [hx] at h1 hl h2
  have ht : x.take 32 = x := List.take_of_length_le (by omega)
  repeat refine St (And.intro h1 <| And.intro hl <| And.intro h2 <| ht) ct31 ?_
  exact AWP.ret (Fin trivial [] [])

/-- The hash of bytes behind a tag. -/
def tagL (tag b : List UInt8) : List UInt8 := shaL (shaL tag ++ shaL tag ++ b)

theorem write_c' {l b : List UInt8} (h : l.length ≤ 1000000000000) (hb : b.length ≤ 1000000000) :
    G40 [msgB l] [.ptr 0 0 [], .t (.by b)] = some ([msgB (l ++ b)], .tup []) := write_c l b h hb

end Go.Fw

end

section
/- frame: magic, commands, sums, encoding. -/
namespace Go.Fw
open Go Go.Proofs
set_option linter.unusedVariables false
set_option linter.unusedSimpArgs false

def dblL (b : List UInt8) : List UInt8 := shaL (shaL b)
theorem dblL_len (b : List UInt8) : (dblL b).length = 32 := shaL_len _
theorem sumF_len (b : List UInt8) : (sumF dblL b).length = 4 := by simp [sumF, dblL_len]

def F27 : Fun
  | [.by a, .by b] => some ([], .t (.bool (a == b)))
  | _ => none

theorem ct27 : CT [] [0, 1, 4] [] := ⟨GClOk.nil _⟩

theorem c27 : ACon Try.prog 27 F27 := by
  refine aconc E_ok (rs := [.tmp 4 4]) Try.func27 rfl Try.ntmps27 (by kernel_rfl) rfl (by decide) F27 (np := 2) ?_ ?_
  · intro ts h; unfold F27; split <;> first | rfl | (simp at h; done)
  intro ts H r hF hwf
  unfold F27 at hF
  split at hF <;> try (cases hF; done)
  rename_i a b
  cases hF
  repeat refine St trivial ct27 ?_
  exact AWP.ret (Fin trivial [] [])

def F28 : Fun
  | [.by b] => if b.length ≤ 549755813000 then some ([.by b], .own 0) else none
  | _ => none

theorem ct28 : CT [] [0, 2, 4] [] := ⟨GClOk.nil _⟩

theorem c28 : ACon Try.prog 28 F28 := by
  refine aconc E_ok (rs := [.tmp 2 22]) Try.func28 rfl Try.ntmps28 (by kernel_rfl) rfl (by decide) F28 (np := 1) ?_ ?_
  · intro ts h; unfold F28; split <;> first | rfl | (simp at h; done)
  intro ts H r hF hwf
  unfold F28 at hF
  split at hF <;> try (cases hF; done)
  rename_i b
  split at hF
  case isFalse => cases hF
  rename_i hc
  have hb := hc
  cases hF
  iterate 3 (refine St trivial ct28 ?_)
  refine AWP.seq ?_
  refine AWP.nK (l := [_]) trivial ct28 (fun r hr => ?_)
  show AWP _ _ _ _ _ _
  cases r
  · repeat refine St trivial ct28 ?_
    exact AWP.ret (Fin trivial [] [1])
  · obtain rfl := hr rfl
    repeat refine St trivial ct28 ?_
    refine AWP.weak (Wo 2 (.by [])) ?_
    exact AWP.ret (Fin trivial [] [0])

theorem clone_c {b : List UInt8} (h : b.length ≤ 549755813000) : F28 [.by b] = some ([.by b], .own 0) := if_pos h

def F19 : Fun
  | [] => some ([.by mag], .own 0)
  | _ => none

theorem ct19 : CT [] [0] [] := ⟨GClOk.nil _⟩

theorem c19 : ACon Try.prog 19 F19 := by
  refine aconc E_ok (rs := [.tmp 0 22]) Try.func19 rfl Try.ntmps19 (by kernel_rfl) rfl (by decide) F19 (np := 0) ?_ ?_
  · intro ts h; unfold F19; split <;> first | rfl | (simp at h; done)
  intro ts H r hF hwf
  unfold F19 at hF
  split at hF <;> try (cases hF; done)
  cases hF
  have hm : ([UInt8.ofNat 229, UInt8.ofNat 29, UInt8.ofNat 10, UInt8.ofNat 23] : List UInt8) = mag := rfl
  repeat refine St trivial ct19 ?_
  exact AWP.ret (Fin hm [] [0])

def F18 : Fun
  | [.int .u8 c] => some ([], .t (.bool (decide (okC c))))
  | _ => none

theorem ct18 : CT [] [0, 2] [] := ⟨GClOk.nil _⟩

theorem c18 : ACon Try.prog 18 F18 := by
  refine aconc E_ok (rs := [.tmp 2 4]) Try.func18 rfl Try.ntmps18 (by kernel_rfl) rfl (by decide) F18 (np := 1) ?_ ?_
  · intro ts h; unfold F18; split <;> first | rfl | (simp at h; done)
  intro ts H r hF hwf
  unfold F18 at hF
  split at hF <;> try (cases hF; done)
  rename_i c
  cases hF
  by_cases h1 : 1 ≤ c
  · by_cases h2 : c ≤ 9
    · have hd : decide (okC c) = true := decide_eq_true ⟨h1, h2⟩
      repeat refine St (And.intro h1 <| h2) ct18 ?_
      exact AWP.ret (Fin hd [] [])
    · have hd : decide (okC c) = false := decide_eq_false fun h => h2 h.2
      repeat refine St (And.intro h1 <| h2) ct18 ?_
      exact AWP.ret (Fin hd [] [])
  · have hd : decide (okC c) = false := decide_eq_false fun h => h1 h.1
    repeat refine St h1 ct18 ?_
    exact AWP.ret (Fin hd [] [])

noncomputable def F21 : Fun
  | [.by b] => if b.length ≤ 1000000 then some ([], .t (.by (sumF dblL b))) else none
  | _ => none

theorem ct21 : CT [(31, ⟨[false], treeG F31⟩)] [0, 2, 3] [] := ⟨(.cons c31.g (.nil _))⟩

theorem c21 : ACon Try.prog 21 F21 := by
  refine aconc E_ok (rs := [.tmp 2 22]) Try.func21 rfl Try.ntmps21 (by kernel_rfl) rfl (by decide) F21 (np := 1) ?_ ?_
  · intro ts h; unfold F21; split <;> first | rfl | (simp at h; done)
  intro ts H r hF hwf
  unfold F21 at hF
  split at hF <;> try (cases hF; done)
  rename_i b
  split at hF
  case isFalse => cases hF
  rename_i hc
  have hb := hc
  cases hF
  have hd : F31 [.by b] = some ([], .t (.ba 32 (dblL b))) := if_pos (by omega)
  have hl := dblL_len b
  have hs : sumF dblL b = (dblL b).take 4 := rfl
  generalize dblL b = x at *
  repeat refine St (And.intro hd <| hl) ct21 ?_
  exact AWP.ret (Fin (And.intro hs <| hl) [0] [])

end Go.Fw

end

section
/- frame: encoding, taking. -/
namespace Go.Fw
open Go Go.Proofs
set_option linter.unusedVariables false
set_option linter.unusedSimpArgs false

theorem u8_ex {n : Int} (h : inK .u8 n) : ∃ c : UInt8, n = ((c.toNat : Nat) : Int) := by
  obtain ⟨h0, h1⟩ := inK_u8 h
  refine ⟨UInt8.ofNat n.toNat, ?_⟩
  simp; omega
theorem u8_of (c : UInt8) : UInt8.ofNat c.toNat = c := by simp

def F25 : Fun
  | [.by b] => some ([], .t (.bool (begF b)))
  | _ => none

theorem ct25 : CT [(19, ⟨[], treeG F19⟩), (27, ⟨[false, false], treeG F27⟩)] [0, 2, 3, 4] [(3, [⟨0, [0], []⟩, ⟨0, [4], []⟩, ⟨1, [11, 12], []⟩, ⟨0, [3], []⟩, ⟨0, [4], []⟩, ⟨1, [14, 15], []⟩, ⟨1, [13, 16], [2, 5]⟩, ⟨0, [17], [2, 5, 6]⟩])] := ⟨(.cons c19.g (.cons c27.g (.nil _)))⟩

theorem c25 : ACon Try.prog 25 F25 := by
  refine aconc E_ok (rs := [.tmp 2 4]) Try.func25 rfl Try.ntmps25 (by kernel_rfl) rfl (by decide) F25 (np := 1) ?_ ?_
  · intro ts h; unfold F25; split <;> first | rfl | (simp at h; done)
  intro ts H r hF hwf
  unfold F25 at hF
  split at hF <;> try (cases hF; done)
  rename_i b
  cases hF
  have hb : b.length ≤ maxLen := by have := hwf (.by b) (by simp); simpa only [T.wf] using this
  unfold maxLen at hb
  have hm : mag.length = 4 := rfl
  obtain ⟨n, hn⟩ : ∃ n : Nat, min b.length 4 = n := ⟨_, rfl⟩
  have hmin : (if (4 : Int) < (b.length : Int) then (4 : Int) else (b.length : Int)) = (n : Int) := by split <;> omega
  have hnb : n ≤ b.length := by omega
  have hn4 : n ≤ 4 := by omega
  have hbeg : begF b = (b.take n == mag.take n) := by unfold begF; rw [hn]
  have hmg : F19 [] = some ([.by mag], .own 0) := rfl
  generalize mag = m at *
  repeat refine St (And.intro hmg <| And.intro hm <| And.intro hmin <| And.intro hnb <| And.intro hn4 <| @F27.eq_def) ct25 ?_
  exact AWP.ret (Fin hbeg [] [])

noncomputable def F10 : Fun
  | [.int .u8 n, .by p] => some ([], .tup [.t (.by (encF dblL (UInt8.ofNat n.toNat) p).1), .t (.int .i64 (encF dblL (UInt8.ofNat n.toNat) p).2)])
  | _ => none

theorem ct10 : CT [(18, ⟨[false], treeG F18⟩), (19, ⟨[], treeG F19⟩), (20, ⟨[false, false], treeG F20⟩), (21, ⟨[false], treeG F21⟩)] [0, 1, 4, 5, 6, 7, 11] [] := ⟨(.cons c18.g (.cons c19.g (.cons c20.g (.cons c21.g (.nil _)))))⟩

theorem c10 : ACon Try.prog 10 F10 := by
  refine aconc E_ok (rs := [.tmp 4 22, .tmp 5 24]) Try.func10 rfl Try.ntmps10 (by kernel_rfl) rfl (by decide) F10 (np := 2) ?_ ?_
  · intro ts h; unfold F10; split <;> first | rfl | (simp at h; done)
  intro ts H r hF hwf
  unfold F10 at hF
  split at hF <;> try (cases hF; done)
  rename_i n p
  cases hF
  obtain ⟨c, rfl⟩ := u8_ex (hwf (.int .u8 n) (by simp))
  simp only [Int.toNat_natCast, u8_of]
  by_cases h1 : okC c.toNat
  case neg =>
    have hc : F18 [.int .u8 (c.toNat : Int)] = some ([], .t (.bool false)) := by simp only [F18, h1, decide_false]
    have he : encF dblL c p = ([], 56) := by unfold encF; rw [if_pos h1]
    repeat refine St hc ct10 ?_
    exact AWP.ret (Fin he [] [])
  have hc : F18 [.int .u8 (c.toNat : Int)] = some ([], .t (.bool true)) := by simp only [F18, h1, decide_true]
  by_cases h2 : 45000 < (p.length : Int)
  · have he : encF dblL c p = ([], 4) := by unfold encF; rw [if_neg (by simpa using h1), if_pos (by omega)]
    repeat refine St (And.intro hc <| h2) ct10 ?_
    exact AWP.ret (Fin he [] [])
  have he : encF dblL c p = (frm dblL c p, 0) := by unfold encF; rw [if_neg (by simpa using h1), if_neg (by omega)]
  have hf : frm dblL c p = mag ++ [c] ++ le 4 p.length ++ sumF dblL p ++ p := rfl
  have hs : F21 [.by p] = some ([], .t (.by (sumF dblL p))) := if_pos (by omega)
  have hl := sumF_len p
  have hw : IntKind.u32.wrap (p.length : Int) = (p.length : Int) := wrap_u32 (by omega) (by omega)
  have hml : mag.length = 4 := rfl
  have hp : F20 [.by (mag ++ [c]), .int .u32 (p.length : Int)] = some ([.by (mag ++ [c] ++ le 4 p.length)], .own 0) := put32_c _ (by simp [hml])
  have hl2 : (mag ++ [c] ++ le 4 (p.length : Int)).length = 9 := by simp [hml, le_len]
  have hmg : F19 [] = some ([.by mag], .own 0) := rfl
  generalize sumF dblL p = s at *
  generalize le 4 (p.length : Int) = q at *
  generalize mag = m at *
  have hl3 : (m ++ [c] ++ q ++ s).length = 13 := by simp only [List.length_append] at hl2 ⊢; omega
  repeat refine St (And.intro hc <| And.intro h2 <| And.intro hmg <| And.intro hml <| And.intro @u8_of <| And.intro hw <| And.intro hp <| And.intro hs <| And.intro hl <| And.intro hl2 <| hl3) ct10 ?_
  exact AWP.ret (Fin (And.intro he <| hf) [5] [])

theorem sp4 {x : List UInt8} (h : x.length = 4) : spA x 4 = x ∧ spB x 4 = [] ∧ spE x 4 = 0 := by
  unfold spA spB spE
  rw [if_neg (by omega), if_neg (by omega), if_neg (by omega), if_neg (by omega), if_neg (by omega), if_neg (by omega)]
  exact ⟨List.take_of_length_le (by omega), List.drop_of_length_le (by omega), rfl⟩
theorem cut59 (b : List UInt8) : List.drop 5 (List.take 9 b) = (b.drop 5).take 4 := by rw [List.drop_take]
theorem cut913 (b : List UInt8) : List.drop 9 (List.take 13 b) = (b.drop 9).take 4 := by rw [List.drop_take]

def resT (R : Fr) : List Blk × AV := if R.e = 0 then ([], .tup [.t (.int .u8 R.c.toNat), .t (.by R.p), .t (.by R.r), .t (.int .i64 0)]) else ([], .tup [.t (.int .u8 0), .t (.by []), .t (.by []), .t (.int .i64 R.e)])
def resTo (R : Fr) : List Blk × AV := if R.e = 0 then ([.by R.p, .by R.r], .tup [.t (.int .u8 R.c.toNat), .own 0, .own 1, .t (.int .i64 0)]) else ([], .tup [.t (.int .u8 0), .t (.by []), .t (.by []), .t (.int .i64 R.e)])
noncomputable def F12 : Fun
  | [.by b] => if b.length ≤ 1000000 then some (resT (takF dblL b)) else none
  | _ => none
noncomputable def F12o : Fun
  | [.by b] => if b.length ≤ 1000000 then some (resTo (takF dblL b)) else none
  | _ => none

theorem ct12 : CT [(18, ⟨[false], treeG F18⟩), (21, ⟨[false], treeG F21⟩), (25, ⟨[false], treeG F25⟩), (26, ⟨[false], treeG F26⟩), (27, ⟨[false, false], treeG F27⟩), (28, ⟨[false], treeG F28⟩)] [0, 2, 3, 4, 5, 6, 9, 10, 11, 15, 19, 34, 37, 51] [(14, [⟨0, [10], []⟩, ⟨1, [46], []⟩, ⟨0, [0], []⟩, ⟨1, [48], []⟩, ⟨1, [47, 49], [1, 3]⟩, ⟨0, [50], [1, 3, 4]⟩]), (16, [⟨0, [0], []⟩, ⟨1, [52], []⟩, ⟨1, [53], [1]⟩, ⟨0, [10], []⟩, ⟨1, [55], []⟩, ⟨0, [9], []⟩, ⟨0, [6], []⟩, ⟨1, [57, 58], []⟩, ⟨1, [59], [4, 7]⟩, ⟨0, [54], [1, 2, 4, 7, 8]⟩, ⟨0, [56], [1, 2, 4, 7, 8]⟩, ⟨0, [60], [1, 2, 4, 7, 8]⟩, ⟨0, [], [1, 2, 4, 7, 8]⟩])] := ⟨(.cons c18.g (.cons c21.g (.cons c25.g (.cons c26.g (.cons c27.g (.cons c28.g (.nil _)))))))⟩

set_option maxHeartbeats 4000000 in
theorem c12 : ACon Try.prog 12 F12 := by
  refine aconc E_ok (rs := [.tmp 2 5, .tmp 3 22, .tmp 4 22, .tmp 5 24]) Try.func12 rfl Try.ntmps12 (by kernel_rfl) rfl (by decide) F12 (np := 1) ?_ ?_
  · intro ts h; unfold F12; split <;> first | rfl | (simp at h; done)
  intro ts H r hF hwf
  unfold F12 at hF
  split at hF <;> try (cases hF; done)
  rename_i b
  split at hF
  case isFalse => cases hF
  rename_i hb
  have hF' := Option.some.inj hF
  have err : ∀ e : Int, e ≠ 0 → takF dblL b = ⟨0, [], [], e⟩ → H = [] ∧ r = .tup [.t (.int .u8 0), .t (.by []), .t (.by []), .t (.int .i64 e)] := fun e he h => by
    rw [h] at hF'
    have : resT ⟨0, [], [], e⟩ = ([], .tup [.t (.int .u8 0), .t (.by []), .t (.by []), .t (.int .i64 e)]) := if_neg he
    rw [this] at hF'
    cases hF'
    exact ⟨rfl, rfl⟩
  have htk := takF.eq_1 dblL b
  by_cases h1 : begF b = false
  · rw [if_pos h1] at htk
    obtain ⟨rfl, rfl⟩ := err _ (by omega) htk
    repeat refine St (And.intro @F25.eq_def <| h1) ct12 ?_
    exact AWP.ret (Fin trivial [] [])
  rw [if_neg h1] at htk
  have h1' : begF b = true := by simpa using h1
  by_cases h2 : (b.length : Int) < 13
  · rw [if_pos (by omega)] at htk
    obtain ⟨rfl, rfl⟩ := err _ (by omega) htk
    repeat refine St (And.intro @F25.eq_def <| h1') ct12 ?_
    exact AWP.ret (Fin trivial [] [])
  rw [if_neg (by omega)] at htk
  have l4 : 4 < b.length := by omega
  by_cases h3 : okC (b.getD 4 0).toNat
  case neg =>
    rw [if_pos h3] at htk
    obtain ⟨rfl, rfl⟩ := err _ (by omega) htk
    have hc : F18 [.int .u8 ((b.getD 4 0).toNat : Int)] = some ([], .t (.bool false)) := by simp only [F18, h3, decide_false]
    repeat refine St (And.intro @F25.eq_def <| And.intro h1' <| And.intro l4 <| And.intro @u8.eq_def <| hc) ct12 ?_
    exact AWP.ret (Fin trivial [] [])
  rw [if_neg (by simpa using h3)] at htk
  have hc : F18 [.int .u8 ((b.getD 4 0).toNat : Int)] = some ([], .t (.bool true)) := by simp only [F18, h3, decide_true]
  have hx4 : ((b.drop 5).take 4).length = 4 := by simp; omega
  obtain ⟨s1, s2, s3⟩ := sp4 hx4
  have hlb := num_lt4 ((b.drop 5).take 4) (by omega)
  have ht32 : F26 [.by ((b.drop 5).take 4)] = some ([], .tup [.t (.int .u32 (longF b : Int)), .t (.by []), .t (.int .i64 0)]) := by
    have := take32_c (b := (b.drop 5).take 4) (by omega)
    rw [s1, s2, s3] at this
    exact this
  have hlf : longF b = num ((b.drop 5).take 4) := rfl
  rw [← hlf] at hlb
  have c59 := cut59 b
  have l9 : 9 ≤ b.length := by omega
  have l13 : 13 ≤ b.length := by omega
  have hd13 : (b.drop 13).length = b.length - 13 := by simp
  have hb1 : (longF b : Int) ≤ 4294967295 := by omega
  generalize hn : longF b = n at *
  generalize (b.drop 5).take 4 = x at *
  by_cases h4 : 45000 < (n : Int)
  · rw [if_pos (by omega)] at htk
    obtain ⟨rfl, rfl⟩ := err _ (by omega) htk
    repeat refine St (And.intro @F25.eq_def <| And.intro h1' <| And.intro l4 <| And.intro @u8.eq_def <| And.intro hc <| And.intro c59 <| And.intro l9 <| And.intro l13 <| And.intro ht32 <| h4) ct12 ?_
    exact AWP.ret (Fin trivial [] [])
  rw [if_neg (by omega)] at htk
  have hw : IntKind.i64.wrap (n : Int) = (n : Int) := wrap_i64 (by omega) (by omega)
  by_cases h5 : b.length - 13 < n
  · rw [if_pos h5] at htk
    obtain ⟨rfl, rfl⟩ := err _ (by omega) htk
    have h5' : ((b.drop 13).length : Int) < (n : Int) := by omega
    repeat refine St (And.intro @F25.eq_def <| And.intro h1' <| And.intro l4 <| And.intro @u8.eq_def <| And.intro hc <| And.intro c59 <| And.intro l9 <| And.intro l13 <| And.intro ht32 <| And.intro h4 <| And.intro hw <| h5') ct12 ?_
    exact AWP.ret (Fin trivial [] [])
  rw [if_neg h5] at htk
  have h5' : ¬ ((b.drop 13).length : Int) < (n : Int) := by omega
  have h5n : n ≤ (b.drop 13).length := by omega
  have c913 := cut913 b
  have hs : F21 [.by ((b.drop 13).take n)] = some ([], .t (.by (sumF dblL ((b.drop 13).take n)))) := if_pos (by simp; omega)
  by_cases h6 : sumF dblL ((b.drop 13).take n) = (b.drop 9).take 4
  case neg =>
    rw [if_pos h6] at htk
    obtain ⟨rfl, rfl⟩ := err _ (by omega) htk
    have h6' : (sumF dblL ((b.drop 13).take n) == (b.drop 9).take 4) = false := by simpa using h6
    repeat refine St (And.intro @F25.eq_def <| And.intro h1' <| And.intro l4 <| And.intro @u8.eq_def <| And.intro hc <| And.intro c59 <| And.intro l9 <| And.intro l13 <| And.intro ht32 <| And.intro h4 <| And.intro hw <| And.intro h5' <| And.intro h5n <| And.intro c913 <| And.intro hs <| And.intro @F27.eq_def <| h6') ct12 ?_
    exact AWP.ret (Fin trivial [] [])
  rw [if_neg (by simpa using h6)] at htk
  have h6' : (sumF dblL ((b.drop 13).take n) == (b.drop 9).take 4) = true := by simpa using h6
  rw [htk] at hF'
  have k1 := clone_c (b := (b.drop 13).take n) (by simp; omega)
  have k2 := clone_c (b := (b.drop 13).drop n) (by simp; omega)
  cases hF'
  repeat refine St (And.intro @F25.eq_def <| And.intro h1' <| And.intro l4 <| And.intro @u8.eq_def <| And.intro hc <| And.intro c59 <| And.intro l9 <| And.intro l13 <| And.intro ht32 <| And.intro h4 <| And.intro hw <| And.intro h5' <| And.intro h5n <| And.intro c913 <| And.intro hs <| And.intro @F27.eq_def <| And.intro h6' <| And.intro k1 <| k2) ct12 ?_
  exact AWP.ret (Fin trivial [0,1] [])

set_option maxHeartbeats 4000000 in
theorem c12o : ACon Try.prog 12 F12o := by
  refine aconc E_ok (rs := [.tmp 2 5, .tmp 3 22, .tmp 4 22, .tmp 5 24]) Try.func12 rfl Try.ntmps12 (by kernel_rfl) rfl (by decide) F12o (np := 1) ?_ ?_
  · intro ts h; unfold F12o; split <;> first | rfl | (simp at h; done)
  intro ts H r hF hwf
  unfold F12o at hF
  split at hF <;> try (cases hF; done)
  rename_i b
  split at hF
  case isFalse => cases hF
  rename_i hb
  have hF' := Option.some.inj hF
  have err : ∀ e : Int, e ≠ 0 → takF dblL b = ⟨0, [], [], e⟩ → H = [] ∧ r = .tup [.t (.int .u8 0), .t (.by []), .t (.by []), .t (.int .i64 e)] := fun e he h => by
    rw [h] at hF'
    have : resTo ⟨0, [], [], e⟩ = ([], .tup [.t (.int .u8 0), .t (.by []), .t (.by []), .t (.int .i64 e)]) := if_neg he
    rw [this] at hF'
    cases hF'
    exact ⟨rfl, rfl⟩
  have htk := takF.eq_1 dblL b
  by_cases h1 : begF b = false
  · rw [if_pos h1] at htk
    obtain ⟨rfl, rfl⟩ := err _ (by omega) htk
    repeat refine St (And.intro @F25.eq_def <| h1) ct12 ?_
    exact AWP.ret (Fin trivial [] [])
  rw [if_neg h1] at htk
  have h1' : begF b = true := by simpa using h1
  by_cases h2 : (b.length : Int) < 13
  · rw [if_pos (by omega)] at htk
    obtain ⟨rfl, rfl⟩ := err _ (by omega) htk
    repeat refine St (And.intro @F25.eq_def <| h1') ct12 ?_
    exact AWP.ret (Fin trivial [] [])
  rw [if_neg (by omega)] at htk
  have l4 : 4 < b.length := by omega
  by_cases h3 : okC (b.getD 4 0).toNat
  case neg =>
    rw [if_pos h3] at htk
    obtain ⟨rfl, rfl⟩ := err _ (by omega) htk
    have hc : F18 [.int .u8 ((b.getD 4 0).toNat : Int)] = some ([], .t (.bool false)) := by simp only [F18, h3, decide_false]
    repeat refine St (And.intro @F25.eq_def <| And.intro h1' <| And.intro l4 <| And.intro @u8.eq_def <| hc) ct12 ?_
    exact AWP.ret (Fin trivial [] [])
  rw [if_neg (by simpa using h3)] at htk
  have hc : F18 [.int .u8 ((b.getD 4 0).toNat : Int)] = some ([], .t (.bool true)) := by simp only [F18, h3, decide_true]
  have hx4 : ((b.drop 5).take 4).length = 4 := by simp; omega
  obtain ⟨s1, s2, s3⟩ := sp4 hx4
  have hlb := num_lt4 ((b.drop 5).take 4) (by omega)
  have ht32 : F26 [.by ((b.drop 5).take 4)] = some ([], .tup [.t (.int .u32 (longF b : Int)), .t (.by []), .t (.int .i64 0)]) := by
    have := take32_c (b := (b.drop 5).take 4) (by omega)
    rw [s1, s2, s3] at this
    exact this
  have hlf : longF b = num ((b.drop 5).take 4) := rfl
  rw [← hlf] at hlb
  have c59 := cut59 b
  have l9 : 9 ≤ b.length := by omega
  have l13 : 13 ≤ b.length := by omega
  have hd13 : (b.drop 13).length = b.length - 13 := by simp
  have hb1 : (longF b : Int) ≤ 4294967295 := by omega
  generalize hn : longF b = n at *
  generalize (b.drop 5).take 4 = x at *
  by_cases h4 : 45000 < (n : Int)
  · rw [if_pos (by omega)] at htk
    obtain ⟨rfl, rfl⟩ := err _ (by omega) htk
    repeat refine St (And.intro @F25.eq_def <| And.intro h1' <| And.intro l4 <| And.intro @u8.eq_def <| And.intro hc <| And.intro c59 <| And.intro l9 <| And.intro l13 <| And.intro ht32 <| h4) ct12 ?_
    exact AWP.ret (Fin trivial [] [])
  rw [if_neg (by omega)] at htk
  have hw : IntKind.i64.wrap (n : Int) = (n : Int) := wrap_i64 (by omega) (by omega)
  by_cases h5 : b.length - 13 < n
  · rw [if_pos h5] at htk
    obtain ⟨rfl, rfl⟩ := err _ (by omega) htk
    have h5' : ((b.drop 13).length : Int) < (n : Int) := by omega
    repeat refine St (And.intro @F25.eq_def <| And.intro h1' <| And.intro l4 <| And.intro @u8.eq_def <| And.intro hc <| And.intro c59 <| And.intro l9 <| And.intro l13 <| And.intro ht32 <| And.intro h4 <| And.intro hw <| h5') ct12 ?_
    exact AWP.ret (Fin trivial [] [])
  rw [if_neg h5] at htk
  have h5' : ¬ ((b.drop 13).length : Int) < (n : Int) := by omega
  have h5n : n ≤ (b.drop 13).length := by omega
  have c913 := cut913 b
  have hs : F21 [.by ((b.drop 13).take n)] = some ([], .t (.by (sumF dblL ((b.drop 13).take n)))) := if_pos (by simp; omega)
  by_cases h6 : sumF dblL ((b.drop 13).take n) = (b.drop 9).take 4
  case neg =>
    rw [if_pos h6] at htk
    obtain ⟨rfl, rfl⟩ := err _ (by omega) htk
    have h6' : (sumF dblL ((b.drop 13).take n) == (b.drop 9).take 4) = false := by simpa using h6
    repeat refine St (And.intro @F25.eq_def <| And.intro h1' <| And.intro l4 <| And.intro @u8.eq_def <| And.intro hc <| And.intro c59 <| And.intro l9 <| And.intro l13 <| And.intro ht32 <| And.intro h4 <| And.intro hw <| And.intro h5' <| And.intro h5n <| And.intro c913 <| And.intro hs <| And.intro @F27.eq_def <| h6') ct12 ?_
    exact AWP.ret (Fin trivial [] [])
  rw [if_neg (by simpa using h6)] at htk
  have h6' : (sumF dblL ((b.drop 13).take n) == (b.drop 9).take 4) = true := by simpa using h6
  rw [htk] at hF'
  have k1 := clone_c (b := (b.drop 13).take n) (by simp; omega)
  have k2 := clone_c (b := (b.drop 13).drop n) (by simp; omega)
  cases hF'
  repeat refine St (And.intro @F25.eq_def <| And.intro h1' <| And.intro l4 <| And.intro @u8.eq_def <| And.intro hc <| And.intro c59 <| And.intro l9 <| And.intro l13 <| And.intro ht32 <| And.intro h4 <| And.intro hw <| And.intro h5' <| And.intro h5n <| And.intro c913 <| And.intro hs <| And.intro @F27.eq_def <| And.intro h6' <| And.intro k1 <| k2) ct12 ?_
  exact AWP.ret (Fin trivial [] [0,1])

end Go.Fw

end

section
/- frame: all messages, the next place. -/
namespace Go.Fw
open Go Go.Proofs
set_option linter.unusedVariables false
set_option linter.unusedSimpArgs false

theorem take_fc {b : List UInt8} (h : b.length ≤ 1000000) : F12 [.by b] = some (resT (takF dblL b)) := if_pos h

def F14 : Fun
  | [.by b] => if b.length ≤ 1000000 then some ([], .t (.int .i64 (findF b b.length 1 : Nat))) else none
  | _ => none

theorem ct14 : CT [(25, ⟨[false], treeG F25⟩)] [0, 2, 3, 7, 13] [] := ⟨(.cons c25.g (.nil _))⟩

theorem findF_step (b : List UInt8) (k i : Nat) : findF b (k + 1) i = if i < b.length then (if begF (b.drop i) then i else findF b k (i + 1)) else b.length := rfl

theorem c14 : ACon Try.prog 14 F14 := by
  refine aconc E_ok (rs := [.tmp 2 3]) Try.func14 rfl Try.ntmps14 (by kernel_rfl) rfl (by decide) F14 (np := 1) ?_ ?_
  · intro ts h; unfold F14; split <;> first | rfl | (simp at h; done)
  intro ts H r hF hwf
  unfold F14 at hF
  split at hF <;> try (cases hF; done)
  rename_i b
  split at hF
  case isFalse => cases hF
  rename_i hc
  have hb := hc
  cases hF
  repeat refine St trivial ct14 ?_
  refine AWP.loop (G := { p : Nat × Nat // p.2 ≤ 1000001 ∧ p.1 + p.2 = b.length + 1 ∧ findF b p.1 p.2 = findF b b.length 1 }) (fun p => ⟨[(0, .t (.by b)), (3, .t (.int .i64 (p.1.2 : Int)))], []⟩) (fun p => p.1.1) ⟨(b.length, 1), by dsimp only; omega, by dsimp only, rfl⟩ (Wt trivial [0, 3] []) ?_
  intro ⟨⟨k, i⟩, hi, hki, hf⟩
  dsimp only at hi hki hf ⊢
  by_cases h1 : (i : Int) < (b.length : Int)
  · obtain ⟨k, rfl⟩ : ∃ j, k = j + 1 := ⟨k - 1, by omega⟩
    rw [findF_step, if_pos (by omega)] at hf
    have hil : i ≤ b.length := by omega
    cases hg : begF (b.drop i)
    · rw [hg] at hf
      have hf' : findF b k (i + 1) = findF b b.length 1 := by simpa using hf
      repeat refine St (And.intro hil <| And.intro @F25.eq_def <| hg) ct14 ?_
      exact ⟨⟨(k, i + 1), by dsimp only; omega, by dsimp only; omega, hf'⟩, (Wt trivial [0, 3] []), by dsimp only; omega⟩
    · rw [hg] at hf
      have hf' : findF b b.length 1 = i := by simpa using hf.symm
      repeat refine St (And.intro hil <| And.intro @F25.eq_def <| hg) ct14 ?_
      exact AWP.ret (Fin hf' [] [])
  · have hf' : findF b b.length 1 = b.length := by
      rw [← hf]
      cases k with
      | zero => rfl
      | succ k => rw [findF_step, if_neg (by omega)]
    repeat refine St trivial ct14 ?_
    exact AWP.ret (Fin hf' [] [])

def msgT (x : UInt8 × List UInt8) : T := .st [.int .u8 x.1.toNat, .by x.2]
noncomputable def F15 : Fun
  | [.by b] => if b.length ≤ 1000000 then some ([], .tup [.t (.sq 2 ((allF dblL b []).1.map msgT)), .t (.by (allF dblL b []).2.1), .t (.int .i64 (allF dblL b []).2.2)]) else none
  | _ => none

theorem ct15 : CT [(12, ⟨[false], treeG F12⟩), (28, ⟨[false], treeG F28⟩)] [0, 2, 3, 4, 5, 6, 7, 8, 9, 12, 21] [] := ⟨(.cons c12.g (.cons c28.g (.nil _)))⟩

theorem allF_nil (acc : List (UInt8 × List UInt8)) : allF dblL [] acc = (acc, [], 0) := by rw [allF, if_pos rfl]
theorem allF_go {b : List UInt8} (acc : List (UInt8 × List UInt8)) (h : b ≠ []) (he : (takF dblL b).e = 0) : allF dblL b acc = allF dblL (takF dblL b).r (acc ++ [((takF dblL b).c, (takF dblL b).p)]) := by rw [allF, if_neg h, dif_pos he]
theorem allF_stop {b : List UInt8} (acc : List (UInt8 × List UInt8)) (h : b ≠ []) (he : (takF dblL b).e ≠ 0) : allF dblL b acc = (acc, b, (takF dblL b).e) := by rw [allF, if_neg h, dif_neg he]

set_option maxHeartbeats 1000000 in
theorem c15 : ACon Try.prog 15 F15 := by
  refine aconc E_ok (rs := [.tmp 2 33, .tmp 3 22, .tmp 4 24]) Try.func15 rfl Try.ntmps15 (by kernel_rfl) rfl (by decide) F15 (np := 1) ?_ ?_
  · intro ts h; unfold F15; split <;> first | rfl | (simp at h; done)
  intro ts H r hF hwf
  unfold F15 at hF
  split at hF <;> try (cases hF; done)
  rename_i b
  split at hF
  case isFalse => cases hF
  rename_i hc
  have hb := hc
  cases hF
  obtain ⟨R, hR⟩ : ∃ R, allF dblL b [] = R := ⟨_, rfl⟩
  rw [hR]
  repeat refine St trivial ct15 ?_
  refine AWP.weak (Wo 5 (.sq 2 [])) ?_
  refine AWP.loop (G := { p : List UInt8 × List (UInt8 × List UInt8) // p.1.length ≤ 1000000 ∧ p.2.length + p.1.length ≤ 1000000 ∧ allF dblL p.1 p.2 = R }) (fun p => ⟨[(0, .t (.by p.1.1)), (5, .own 0)], [.sq 2 (p.1.2.map msgT)]⟩) (fun p => p.1.1.length) ⟨(b, []), hb, by simpa using hb, hR⟩ (Wt (@List.map_nil.{0, 0}) [0, 5] [0]) ?_
  intro ⟨⟨q, acc⟩, hq, hal, hall⟩
  dsimp only at hq hal hall ⊢
  by_cases h0 : 0 < (q.length : Int)
  · have hne : q ≠ [] := by intro h; rw [h] at h0; simp at h0
    have ht := take_fc hq
    obtain ⟨hl1, hl2⟩ := takF_len dblL q
    by_cases he : (takF dblL q).e = 0
    · have hea := takF_eat dblL he
      rw [allF_go acc hne he] at hall
      generalize takF dblL q = K at *
      obtain ⟨c, p, r, e⟩ := K
      dsimp only at he hea hall hl1 hl2
      subst he
      have ht' : F12 [.by q] = some ([], .tup [.t (.int .u8 (c.toNat : Int)), .t (.by p), .t (.by r), .t (.int .i64 0)]) := by rw [ht]; rfl
      have hsn : (acc ++ [(c, p)]).map msgT = acc.map msgT ++ [.st [.int .u8 (c.toNat : Int), .by p]] := by simp [msgT]
      have hal' : (acc.map msgT).length ≤ 1000000 := by simp; omega
      repeat refine St (And.intro h0 <| And.intro ht' <| hal') ct15 ?_
      exact ⟨⟨(r, acc ++ [(c, p)]), by dsimp only; omega, by simp; omega, hall⟩, (Wt hsn [0, 5] [2]), by dsimp only; omega⟩
    · rw [allF_stop acc hne he] at hall
      generalize takF dblL q = K at *
      obtain ⟨c, p, r, e⟩ := K
      dsimp only at he hall
      have hre : resT ⟨c, p, r, e⟩ = ([], .tup [.t (.int .u8 0), .t (.by []), .t (.by []), .t (.int .i64 e)]) := if_neg he
      rw [hre] at ht
      have heb : (e != 0) = true := by simpa using he
      have hcl := clone_c (b := q) (by omega)
      subst hall
      repeat refine St (And.intro h0 <| And.intro ht <| And.intro heb <| hcl) ct15 ?_
      exact AWP.ret (Fin trivial [0, 1] [])
  · obtain rfl : q = [] := List.length_eq_zero_iff.1 (by omega)
    rw [allF_nil] at hall
    subst hall
    repeat refine St trivial ct15 ?_
    exact AWP.ret (Fin trivial [0] [])

end Go.Fw

end

section
/- Chapter 7's answer: turning, padding. -/
namespace Go.Fw
open Go Go.Proofs
set_option linter.unusedVariables false
set_option linter.unusedSimpArgs false

theorem wordR (a b c d : UInt32) : ((a <<< 8 ||| b) <<< 8 ||| c) <<< 8 ||| d = a <<< 24 ||| b <<< 16 ||| c <<< 8 ||| d := by
  have h1 : ∀ x : UInt32, x <<< 8 <<< 8 = x <<< 16 := fun x => by
    rw [← UInt32.shiftLeft_add (by decide) (by decide) (by decide)]; rfl
  have h2 : ∀ x : UInt32, x <<< 16 <<< 8 = x <<< 24 := fun x => by
    rw [← UInt32.shiftLeft_add (by decide) (by decide) (by decide)]; rfl
  simp only [UInt32.shiftLeft_or, h1, h2]

def F47 : Fun
  | [.int .u32 n, .int .u64 k] => if 1 ≤ k ∧ k ≤ 31 then some ([], .t (u32T (tr (UInt32.ofNat n.toNat) k.toNat))) else none
  | _ => none

theorem ct47 : CT [] [0, 1, 4] [] := ⟨GClOk.nil _⟩

theorem c47 : ACon Try.prog 47 F47 := by
  refine aconc E_ok (rs := [.tmp 4 46]) Try.func47 rfl Try.ntmps47 (by kernel_rfl) rfl (by decide) F47 (np := 2) ?_ ?_
  · intro ts h; unfold F47; split <;> first | rfl | (simp at h; done)
  intro ts H r hF hwf
  unfold F47 at hF
  split at hF <;> try (cases hF; done)
  rename_i n k
  split at hF
  case isFalse => cases hF
  rename_i hc
  obtain ⟨h1, h2⟩ := hc
  cases hF
  have hn := u32_of (by have := hwf _ (List.mem_cons_self); simpa only [T.wf] using this : inK .u32 n)
  generalize UInt32.ofNat n.toNat = x at *
  subst hn
  obtain ⟨r, rfl⟩ : ∃ r : Nat, k = (r : Int) := ⟨k.toNat, by omega⟩
  have hk : IntKind.u64.wrap (32 - (r : Int)) = ((32 - r : Nat) : Int) := by rw [wrap_u64 (by omega) (by omega)]; omega
  have h4 := u32_shl x (32 - r) (by omega)
  have h5 := u32_shr x r (by omega)
  have e0 : ¬ (r : Int) < 0 := by omega
  have e1 : ¬ ((32 - r : Nat) : Int) < 0 := by omega
  repeat refine St (And.intro hk <| And.intro e0 <| And.intro e1 <| And.intro h4 <| And.intro h5 <| @u32_or) ct47 ?_
  exact AWP.ret (Fin (And.intro @u32T.eq_def <| @tr.eq_def) [] [])

theorem turn_c (x : UInt32) (r : Nat) (h : 1 ≤ r) (h1 : r ≤ 31) : F47 [.int .u32 (x.toNat : Int), .int .u64 (r : Int)] = some ([], .t (.int .u32 ((tr x r).toNat : Int))) := by
  simp only [F47]
  rw [if_pos ⟨by omega, by omega⟩]
  simp [u32T]
theorem turn2 (x : UInt32) : F47 [.int .u32 (x.toNat : Int), .int .u64 2] = some ([], .t (.int .u32 ((tr x 2).toNat : Int))) := turn_c x 2 (by omega) (by omega)
theorem turn6 (x : UInt32) : F47 [.int .u32 (x.toNat : Int), .int .u64 6] = some ([], .t (.int .u32 ((tr x 6).toNat : Int))) := turn_c x 6 (by omega) (by omega)
theorem turn7 (x : UInt32) : F47 [.int .u32 (x.toNat : Int), .int .u64 7] = some ([], .t (.int .u32 ((tr x 7).toNat : Int))) := turn_c x 7 (by omega) (by omega)
theorem turn11 (x : UInt32) : F47 [.int .u32 (x.toNat : Int), .int .u64 11] = some ([], .t (.int .u32 ((tr x 11).toNat : Int))) := turn_c x 11 (by omega) (by omega)
theorem turn13 (x : UInt32) : F47 [.int .u32 (x.toNat : Int), .int .u64 13] = some ([], .t (.int .u32 ((tr x 13).toNat : Int))) := turn_c x 13 (by omega) (by omega)
theorem turn17 (x : UInt32) : F47 [.int .u32 (x.toNat : Int), .int .u64 17] = some ([], .t (.int .u32 ((tr x 17).toNat : Int))) := turn_c x 17 (by omega) (by omega)
theorem turn18 (x : UInt32) : F47 [.int .u32 (x.toNat : Int), .int .u64 18] = some ([], .t (.int .u32 ((tr x 18).toNat : Int))) := turn_c x 18 (by omega) (by omega)
theorem turn19 (x : UInt32) : F47 [.int .u32 (x.toNat : Int), .int .u64 19] = some ([], .t (.int .u32 ((tr x 19).toNat : Int))) := turn_c x 19 (by omega) (by omega)
theorem turn22 (x : UInt32) : F47 [.int .u32 (x.toNat : Int), .int .u64 22] = some ([], .t (.int .u32 ((tr x 22).toNat : Int))) := turn_c x 22 (by omega) (by omega)
theorem turn25 (x : UInt32) : F47 [.int .u32 (x.toNat : Int), .int .u64 25] = some ([], .t (.int .u32 ((tr x 25).toNat : Int))) := turn_c x 25 (by omega) (by omega)

def F43 : Fun
  | [.by b] => if b.length ≤ 1000000000 then some ([.by (padS b b.length)], .own 0) else none
  | _ => none

theorem ct43 : CT [] [0, 2, 3, 4, 5, 15, 24] [] := ⟨GClOk.nil _⟩

theorem c43 : ACon Try.prog 43 F43 := by
  refine aconc E_ok (rs := [.tmp 2 22]) Try.func43 rfl Try.ntmps43 (by kernel_rfl) rfl (by decide) F43 (np := 1) ?_ ?_
  · intro ts h; unfold F43; split <;> first | rfl | (simp at h; done)
  intro ts H r hF hwf
  unfold F43 at hF
  split at hF <;> try (cases hF; done)
  rename_i r
  split at hF
  case isFalse => cases hF
  rename_i hc
  have hr := hc
  cases hF
  have e128 : ∀ l : List UInt8, (l ++ [128]).length = l.length + 1 := fun l => by simp
  repeat refine St (And.intro hr <| e128) ct43 ?_
  have hp64 : (r ++ UInt8.ofNat 128 :: repl (padK r.length) 0).length % 64 = 56 := by simp only [List.length_append, List.length_cons, repl_len, padK]; omega
  refine AWP.loop (G := { k : Nat // k ≤ padK r.length }) (fun k => ⟨[(0, .t (.by r)), (3, .own 0)], [.by (r ++ (UInt8.ofNat 128 :: repl k.1 0))]⟩) (fun k => padK r.length - k.1) ⟨0, by omega⟩ (Wt @repl_0 [0, 3] [3]) ?_
  intro ⟨k, hk⟩
  dsimp only
  obtain ⟨L, hL⟩ : ∃ L, r ++ (UInt8.ofNat 128 :: repl k (0 : UInt8)) = L := ⟨_, rfl⟩
  have hLl : L.length = r.length + 1 + k := by rw [← hL]; simp only [List.length_append, List.length_cons, repl_len]; omega
  have hnx : L ++ [UInt8.ofNat 0] = r ++ (UInt8.ofNat 128 :: repl (k + 1) 0) := by rw [← hL, ← repl_snoc]; simp
  rw [hL]
  have hrem : IntKind.i64.wrap (Int.tmod (L.length : Int) 64) = ((L.length % 64 : Nat) : Int) := by
    have : Int.tmod (L.length : Int) 64 = ((L.length % 64 : Nat) : Int) := by rw [Int.tmod_eq_emod_of_nonneg (by omega)]; omega
    rw [this, wrap_i64 (by omega) (by omega)]
  have hkK : padK r.length = (119 - r.length % 64) % 64 := rfl
  by_cases hd : L.length % 64 = 56
  · have hkk : k = padK r.length := by omega
    have hd' : (((L.length % 64 : Nat) : Int) != 56) = false := by simp; omega
    rw [← hkk] at hp64
    have hpad : padS r r.length = L ++ be8 (r.length * 8) 8 := by rw [← hL, hkk]; rfl
    have hcv : IntKind.u64.wrap (r.length : Int) = (r.length : Int) := wrap_u64 (by omega) (by omega)
    have hmul : IntKind.u64.wrap ((r.length : Int) * 8) = ((r.length * 8 : Nat) : Int) := by rw [wrap_u64 (by omega) (by omega)]; omega
    repeat refine St (And.intro hrem <| And.intro hd' <| And.intro hcv <| hmul) ct43 ?_
    refine AWP.loop (G := { j : Nat // j ≤ 8 }) (fun j => ⟨[(3, .own 0), (4, .t (.int .u64 ((r.length * 8 : Nat) : Int))), (5, .t (.int .i64 (j.1 : Int)))], [.by (L ++ be8 (r.length * 8) j.1)]⟩) (fun j => 8 - j.1) ⟨0, by omega⟩ (Wt (show be8 (r.length * 8) 0 = [] from rfl) [3, 4, 5] [0]) ?_
    intro ⟨j, hj⟩
    dsimp only
    have hbl := be8_len (r.length * 8) j
    by_cases hj8 : (j : Int) < 8
    · have hbyte := beB_eq r.length j (by omega) (by omega)
      have hm1 : IntKind.i64.wrap (8 * (j : Int)) = ((8 * j : Nat) : Int) := by rw [wrap_i64 (by omega) (by omega)]; omega
      have hm2 : IntKind.i64.wrap (56 - ((8 * j : Nat) : Int)) = ((56 - 8 * j : Nat) : Int) := by rw [wrap_i64 (by omega) (by omega)]; omega
      have hm3 : IntKind.u64.wrap ((56 - 8 * j : Nat) : Int) = ((56 - 8 * j : Nat) : Int) := wrap_u64 (by omega) (by omega)
      have hnn : ¬ ((56 - 8 * j : Nat) : Int) < 0 := by omega
      have hk8 : IntKind.i64.wrap ((j : Int) + 1) = ((j + 1 : Nat) : Int) := by rw [wrap_i64 (by omega) (by omega)]; omega
      have hsn : (L ++ be8 (r.length * 8) j) ++ [beB (r.length * 8) j] = L ++ be8 (r.length * 8) (j + 1) := by rw [List.append_assoc, be8_snoc]
      have hal : (L ++ be8 (r.length * 8) j).length ≤ 1000000300 := by simp [hbl]; omega
      obtain ⟨M, hM⟩ : ∃ M, L ++ be8 (r.length * 8) j = M := ⟨_, rfl⟩
      rw [hM] at hal hsn ⊢
      repeat refine St (And.intro hj8 <| And.intro hm1 <| And.intro hm2 <| And.intro hm3 <| And.intro hnn <| And.intro hbyte <| And.intro hk8 <| hal) ct43 ?_
      exact ⟨⟨j + 1, by omega⟩, (Wt hsn [3, 4, 5] [2]), by simp only; omega⟩
    · obtain rfl : j = 8 := by omega
      rw [← hpad]
      repeat refine St hj8 ct43 ?_
      exact AWP.ret (Fin trivial [] [0])
  · have hd' : (((L.length % 64 : Nat) : Int) != 56) = true := by simp; omega
    have hLs : L.length ≤ 1000000200 := by omega
    repeat refine St (And.intro hrem <| And.intro hd' <| hLs) ct43 ?_
    exact ⟨⟨k + 1, by omega⟩, (Wt hnx [0, 3] [2]), by simp only; omega⟩

end Go.Fw

end

section
/- Chapter 7's answer: a block. -/
namespace Go.Fw
open Go Go.Proofs
set_option linter.unusedVariables false
set_option linter.unusedSimpArgs false

/-- The first so many numbers added to. -/
def mixV (s v : S8) (i : Nat) : List T := ((s.add v).l.take i ++ v.l.drop i).map u32T
theorem mixV_len (s v : S8) : ∀ i, i ≤ 8 → (mixV s v i).length = 8
  | 0, _ => rfl | 1, _ => rfl | 2, _ => rfl | 3, _ => rfl | 4, _ => rfl | 5, _ => rfl | 6, _ => rfl | 7, _ => rfl | 8, _ => rfl
  | i + 9, h => by omega
theorem mixV_get (s v : S8) : ∀ i, i < 8 → (mixV s v i).getD i default = .int .u32 ((v.l.getD i 0).toNat : Int)
  | 0, _ => rfl | 1, _ => rfl | 2, _ => rfl | 3, _ => rfl | 4, _ => rfl | 5, _ => rfl | 6, _ => rfl | 7, _ => rfl
  | i + 8, h => by omega
theorem mixV_set0 (s v : S8) : ∀ i, i < 8 → (mixV s v i).set i (.int .u32 ((s.l.getD i 0 + v.l.getD i 0).toNat : Int)) = mixV s v (i + 1)
  | 0, _ => rfl | 1, _ => rfl | 2, _ => rfl | 3, _ => rfl | 4, _ => rfl | 5, _ => rfl | 6, _ => rfl | 7, _ => rfl
  | i + 8, h => by omega
theorem mixV_set (s v : S8) (i : Nat) (h : i < 8) : (mixV s v i).set i (.int .u32 ((v.l.getD i 0 + s.l.getD i 0).toNat : Int)) = mixV s v (i + 1) := by
  rw [UInt32.add_comm]; exact mixV_set0 s v i h
theorem mixV_0 (s v : S8) : mixV s v 0 = a8 v := rfl
theorem mixV_8 (s v : S8) : mixV s v 8 = (s.add v).l.map u32T := rfl
theorem clean_u32 (l : List UInt32) : T.cleanL (l.map u32T) = true := by
  induction l with
  | nil => rfl
  | cons x l ih => simp only [List.map_cons, T.cleanL, ih]; rfl
theorem sch_snoc (b : List UInt8) (t : Nat) : (sch b (t + 1)).map u32T = (sch b t).map u32T ++ [u32T (next b (sch b t) t)] := by simp [sch]

open Classical in
noncomputable def F44 : Fun
  | [.sq 1 hs, .sq 1 ks, .by b] => match asS8 hs with
    | some s => if ks = kS.map u32T ∧ b.length = 64 then some ([.sq 1 ((blkS s b).l.map u32T)], .own 0) else none
    | none => none
  | _ => none

theorem block_c (s : S8) {b : List UInt8} (h : b.length = 64) : F44 [.sq 1 (s.l.map u32T), .sq 1 (kS.map u32T), .by b] = some ([.sq 1 ((blkS s b).l.map u32T)], .own 0) := by
  simp only [F44, asS8_map]; rw [if_pos ⟨trivial, h⟩]

theorem ct44 : CT [(47, ⟨[false, false], treeG F47⟩)] [0, 1, 2, 6, 7, 8, 9, 10, 11, 12, 13, 14, 15, 16, 17, 18, 19, 20, 23, 27, 112, 211] [(6, (List.cons (⟨0, [7], []⟩ : Info) <| List.cons (⟨0, [2], []⟩ : Info) <| List.cons (⟨0, [8], []⟩ : Info) <| List.cons (⟨0, [30], []⟩ : Info) <| List.cons (⟨1, [29, 31], []⟩ : Info) <| List.cons (⟨1, [32], [4]⟩ : Info) <| List.cons (⟨1, [33], [4, 5]⟩ : Info) <| List.cons (⟨0, [34], [4, 5, 6]⟩ : Info) <| List.cons (⟨0, [2], []⟩ : Info) <| List.cons (⟨0, [8], []⟩ : Info) <| List.cons (⟨0, [37], []⟩ : Info) <| List.cons (⟨0, [38], []⟩ : Info) <| List.cons (⟨1, [36, 39], []⟩ : Info) <| List.cons (⟨1, [40], [12]⟩ : Info) <| List.cons (⟨1, [41], [12, 13]⟩ : Info) <| List.cons (⟨0, [42], [12, 13, 14]⟩ : Info) <| List.cons (⟨0, [35, 43], [4, 5, 6, 12, 13, 14]⟩ : Info) <| List.cons (⟨0, [2], []⟩ : Info) <| List.cons (⟨0, [8], []⟩ : Info) <| List.cons (⟨0, [46], []⟩ : Info) <| List.cons (⟨0, [47], []⟩ : Info) <| List.cons (⟨1, [45, 48], []⟩ : Info) <| List.cons (⟨1, [49], [21]⟩ : Info) <| List.cons (⟨1, [50], [21, 22]⟩ : Info) <| List.cons (⟨0, [51], [21, 22, 23]⟩ : Info) <| List.cons (⟨0, [44, 52], [4, 5, 6, 12, 13, 14, 21, 22, 23]⟩ : Info) <| List.cons (⟨0, [2], []⟩ : Info) <| List.cons (⟨0, [8], []⟩ : Info) <| List.cons (⟨0, [55], []⟩ : Info) <| List.cons (⟨0, [56], []⟩ : Info) <| List.cons (⟨1, [54, 57], []⟩ : Info) <| List.cons (⟨1, [58], [30]⟩ : Info) <| List.cons (⟨1, [59], [30, 31]⟩ : Info) <| List.cons (⟨0, [53, 60], [4, 5, 6, 12, 13, 14, 21, 22, 23, 30, 31, 32]⟩ : Info) <| List.cons (⟨1, [61], [4, 5, 6, 12, 13, 14, 21, 22, 23, 30, 31, 32]⟩ : Info) <| List.cons (⟨2, [28, 62], [4, 5, 6, 12, 13, 14, 21, 22, 23, 30, 31, 32, 34]⟩ : Info) <| List.cons (⟨0, [63], [4, 5, 6, 12, 13, 14, 21, 22, 23, 30, 31, 32, 34, 35]⟩ : Info) <| [])), (7, [⟨0, [7], []⟩, ⟨0, [8], []⟩, ⟨0, [65], []⟩, ⟨1, [64, 66], []⟩, ⟨1, [67], [3]⟩, ⟨0, [7], []⟩, ⟨0, [8], []⟩, ⟨0, [70], []⟩, ⟨1, [69, 71], []⟩, ⟨1, [72], [8]⟩, ⟨0, [68], [3, 4]⟩, ⟨0, [73], [3, 4, 8, 9]⟩]), (10, [⟨0, [7], []⟩, ⟨0, [12], []⟩, ⟨0, [7], []⟩, ⟨0, [8], []⟩, ⟨0, [93], []⟩, ⟨1, [92, 94], []⟩, ⟨1, [95], [5]⟩, ⟨0, [91, 96], [5, 6]⟩, ⟨0, [11], []⟩, ⟨0, [97, 98], [5, 6]⟩, ⟨0, [7], []⟩, ⟨0, [8], []⟩, ⟨0, [101], []⟩, ⟨1, [100, 102], []⟩, ⟨1, [103], [13]⟩, ⟨0, [99, 104], [5, 6, 13, 14]⟩, ⟨1, [105], [5, 6, 13, 14]⟩, ⟨2, [90, 106], [5, 6, 13, 14, 16]⟩, ⟨0, [107], [5, 6, 13, 14, 16, 17]⟩]), (15, [⟨0, [13], []⟩, ⟨1, [115], []⟩, ⟨1, [116], [1]⟩, ⟨0, [13], []⟩, ⟨1, [118], []⟩, ⟨1, [119], [4]⟩, ⟨0, [13], []⟩, ⟨1, [121], []⟩, ⟨1, [122], [7]⟩, ⟨0, [117], [1, 2]⟩, ⟨0, [120], [1, 2, 4, 5]⟩, ⟨0, [123], [1, 2, 4, 5, 7, 8]⟩]), (16, (List.cons (⟨0, [13], []⟩ : Info) <| List.cons (⟨1, [124], []⟩ : Info) <| List.cons (⟨1, [125], [1]⟩ : Info) <| List.cons (⟨0, [17], []⟩ : Info) <| List.cons (⟨1, [127], []⟩ : Info) <| List.cons (⟨0, [17], []⟩ : Info) <| List.cons (⟨1, [129], [4]⟩ : Info) <| List.cons (⟨0, [128, 130], [4, 6]⟩ : Info) <| List.cons (⟨0, [17], []⟩ : Info) <| List.cons (⟨1, [132], [4, 6]⟩ : Info) <| List.cons (⟨0, [131, 133], [4, 6, 9]⟩ : Info) <| List.cons (⟨0, [126, 134], [1, 2, 4, 6, 9]⟩ : Info) <| List.cons (⟨0, [17], []⟩ : Info) <| List.cons (⟨0, [13], []⟩ : Info) <| List.cons (⟨1, [137], []⟩ : Info) <| List.cons (⟨1, [138], [14]⟩ : Info) <| List.cons (⟨0, [136, 139], [14, 15]⟩ : Info) <| List.cons (⟨0, [17], []⟩ : Info) <| List.cons (⟨0, [141], []⟩ : Info) <| List.cons (⟨0, [13], []⟩ : Info) <| List.cons (⟨1, [143], []⟩ : Info) <| List.cons (⟨1, [144], [20]⟩ : Info) <| List.cons (⟨0, [142, 145], [20, 21]⟩ : Info) <| List.cons (⟨0, [140, 146], [14, 15, 20, 21]⟩ : Info) <| List.cons (⟨0, [135, 147], [1, 2, 4, 6, 9, 14, 15, 20, 21]⟩ : Info) <| List.cons (⟨0, [1], []⟩ : Info) <| List.cons (⟨0, [14], []⟩ : Info) <| List.cons (⟨1, [149, 150], []⟩ : Info) <| List.cons (⟨1, [151], [27]⟩ : Info) <| List.cons (⟨0, [148, 152], [1, 2, 4, 6, 9, 14, 15, 20, 21, 27, 28]⟩ : Info) <| List.cons (⟨0, [7], []⟩ : Info) <| List.cons (⟨0, [14], []⟩ : Info) <| List.cons (⟨1, [154, 155], []⟩ : Info) <| List.cons (⟨1, [156], [32]⟩ : Info) <| List.cons (⟨0, [153, 157], [1, 2, 4, 6, 9, 14, 15, 20, 21, 27, 28, 32, 33]⟩ : Info) <| List.cons (⟨0, [158], [1, 2, 4, 6, 9, 14, 15, 20, 21, 27, 28, 32, 33]⟩ : Info) <| [])), (17, [⟨0, [15], []⟩, ⟨1, [159], []⟩, ⟨0, [15], []⟩, ⟨1, [161], [1]⟩, ⟨0, [160, 162], [1, 3]⟩, ⟨0, [15], []⟩, ⟨1, [164], [1, 3]⟩, ⟨0, [163, 165], [1, 3, 6]⟩, ⟨0, [15], []⟩, ⟨0, [13], []⟩, ⟨1, [168], []⟩, ⟨1, [169], [10]⟩, ⟨0, [167, 170], [10, 11]⟩, ⟨0, [15], []⟩, ⟨0, [16], []⟩, ⟨0, [172, 173], []⟩, ⟨0, [171, 174], [10, 11]⟩, ⟨0, [13], []⟩, ⟨1, [176], []⟩, ⟨1, [177], [18]⟩, ⟨0, [16], []⟩, ⟨0, [178, 179], [18, 19]⟩, ⟨0, [175, 180], [10, 11, 18, 19]⟩, ⟨0, [166, 181], [1, 3, 6, 10, 11, 18, 19]⟩, ⟨0, [182], [1, 3, 6, 10, 11, 18, 19]⟩]), (18, [⟨0, [18], []⟩, ⟨0, [19], []⟩, ⟨0, [183, 184], []⟩, ⟨0, [13], []⟩, ⟨1, [186], []⟩, ⟨1, [187], [4]⟩, ⟨0, [13], []⟩, ⟨1, [189], []⟩, ⟨1, [190], [7]⟩, ⟨0, [13], []⟩, ⟨1, [192], []⟩, ⟨1, [193], [10]⟩, ⟨0, [13], []⟩, ⟨1, [195], []⟩, ⟨1, [196], [13]⟩, ⟨0, [18], []⟩, ⟨0, [197, 198], [13, 14]⟩, ⟨0, [13], []⟩, ⟨1, [200], []⟩, ⟨1, [201], [18]⟩, ⟨0, [13], []⟩, ⟨1, [203], []⟩, ⟨1, [204], [21]⟩, ⟨0, [13], []⟩, ⟨1, [206], []⟩, ⟨1, [207], [24]⟩, ⟨1, [185, 188, 191, 194, 199, 202, 205, 208], [4, 5, 7, 8, 10, 11, 13, 14, 18, 19, 21, 22, 24, 25]⟩, ⟨0, [209], [4, 5, 7, 8, 10, 11, 13, 14, 18, 19, 21, 22, 24, 25, 26]⟩]), (22, [⟨0, [13], []⟩, ⟨0, [20], []⟩, ⟨0, [13], []⟩, ⟨0, [20], []⟩, ⟨1, [216, 217], []⟩, ⟨1, [218], [4]⟩, ⟨0, [0], []⟩, ⟨0, [20], []⟩, ⟨1, [220, 221], []⟩, ⟨1, [222], [8]⟩, ⟨0, [219, 223], [4, 5, 8, 9]⟩, ⟨1, [214, 215], [4, 5, 8, 9]⟩, ⟨2, [224, 225], [4, 5, 8, 9, 11]⟩])] := ⟨(.cons c47.g (.nil _))⟩

set_option maxRecDepth 100000 in
set_option maxHeartbeats 4000000 in
theorem c44 : ACon Try.prog 44 F44 := by
  refine aconc E_ok (rs := [.tmp 6 65]) Try.func44 rfl Try.ntmps44 (by kernel_rfl) rfl (by decide) F44 (np := 3) ?_ ?_
  · intro ts h; unfold F44; split <;> first | rfl | (simp at h; done)
  intro ts H r hF hwf
  unfold F44 at hF
  split at hF <;> try (cases hF; done)
  rename_i hs ks b
  split at hF
  case h_2 => cases hF
  rename_i s hs
  split at hF
  case isFalse => cases hF
  rename_i hc
  obtain ⟨hk, hb⟩ := hc
  cases hF
  subst hk
  obtain rfl := asS8_inv hs
  repeat refine St trivial ct44 ?_
  refine AWP.loop (G := { t : Nat // t ≤ 64 }) (fun t => ⟨[(0, .t (.sq 1 (s.l.map u32T))), (1, .t (.sq 1 (kS.map u32T))), (2, .t (.by b)), (7, .own 0), (8, .t (.int .i64 (t.1 : Int)))], [.sq 1 ((sch b t.1).map u32T)]⟩) (fun t => 64 - t.1) ⟨0, by omega⟩ (Wt (And.intro @sch.eq_1 <| @sch.eq_2) [0, 1, 2, 7, 8] [0]) ?_
  intro ⟨t, ht⟩
  dsimp only
  have hsl : (List.map u32T (sch b t)).length = t := by simp [sch_len]
  by_cases hlt : (t : Int) < 64
  case pos =>
    have hk1 : IntKind.i64.wrap ((t : Int) + 1) = ((t + 1 : Nat) : Int) := by rw [wrap_i64 (by omega) (by omega)]; omega
    have hsn := sch_snoc b t
    by_cases h16 : (t : Int) < 16
    · have m4 : IntKind.i64.wrap (4 * (t : Int)) = ((4 * t : Nat) : Int) := by rw [wrap_i64 (by omega) (by omega)]; omega
      have m41 : IntKind.i64.wrap (((4 * t : Nat) : Int) + 1) = ((4 * t + 1 : Nat) : Int) := by rw [wrap_i64 (by omega) (by omega)]; omega
      have m42 : IntKind.i64.wrap (((4 * t : Nat) : Int) + 2) = ((4 * t + 2 : Nat) : Int) := by rw [wrap_i64 (by omega) (by omega)]; omega
      have m43 : IntKind.i64.wrap (((4 * t : Nat) : Int) + 3) = ((4 * t + 3 : Nat) : Int) := by rw [wrap_i64 (by omega) (by omega)]; omega
      have l0 : 4 * t < b.length := by omega
      have l1 : 4 * t + 1 < b.length := by omega
      have l2 : 4 * t + 2 < b.length := by omega
      have l3 : 4 * t + 3 < b.length := by omega
      have s24 := fun x => u32_shl x 24 (by omega)
      have s16 := fun x => u32_shl x 16 (by omega)
      have s8 := fun x => u32_shl x 8 (by omega)
      have hw : (b.getD (4 * t) 0).toUInt32 <<< UInt32.ofNat 24 ||| (b.getD (4 * t + 1) 0).toUInt32 <<< UInt32.ofNat 16 ||| (b.getD (4 * t + 2) 0).toUInt32 <<< UInt32.ofNat 8 ||| (b.getD (4 * t + 3) 0).toUInt32 = next b (sch b t) t := by
        unfold next word
        rw [if_pos (by omega), wordR]; rfl
      repeat refine St (And.intro hlt <| And.intro h16 <| And.intro m4 <| And.intro m41 <| And.intro m42 <| And.intro m43 <| And.intro l0 <| And.intro l1 <| And.intro l2 <| And.intro l3 <| And.intro @u8.eq_def <| And.intro @u32_of_u8 <| And.intro s24 <| And.intro s16 <| And.intro s8 <| And.intro @u32_or <| And.intro hsl <| hk1) ct44 ?_
      exact ⟨⟨t + 1, by omega⟩, (Wt (And.intro hsn <| And.intro hw <| @u32T.eq_def) [0, 1, 2, 7, 8] [2]), by simp only; omega⟩
    · have g15 : ((sch b t).map u32T).getD (t - 15) default = _ := u32T_getD (by rw [sch_len]; omega)
      have g2 : ((sch b t).map u32T).getD (t - 2) default = _ := u32T_getD (by rw [sch_len]; omega)
      have g7 : ((sch b t).map u32T).getD (t - 7) default = _ := u32T_getD (by rw [sch_len]; omega)
      have g16 : ((sch b t).map u32T).getD (t - 16) default = _ := u32T_getD (by rw [sch_len]; omega)
      have m15 : IntKind.i64.wrap ((t : Int) - 15) = ((t - 15 : Nat) : Int) := by rw [wrap_i64 (by omega) (by omega)]; omega
      have m2 : IntKind.i64.wrap ((t : Int) - 2) = ((t - 2 : Nat) : Int) := by rw [wrap_i64 (by omega) (by omega)]; omega
      have m7 : IntKind.i64.wrap ((t : Int) - 7) = ((t - 7 : Nat) : Int) := by rw [wrap_i64 (by omega) (by omega)]; omega
      have m16 : IntKind.i64.wrap ((t : Int) - 16) = ((t - 16 : Nat) : Int) := by rw [wrap_i64 (by omega) (by omega)]; omega
      have l15 : t - 15 < t := by omega
      have l2 : t - 2 < t := by omega
      have l7 : t - 7 < t := by omega
      have l16 : t - 16 < t := by omega
      have i15 : ((t - 15 : Nat) : Int) < (t : Int) := by omega
      have i2 : ((t - 2 : Nat) : Int) < (t : Int) := by omega
      have i7 : ((t - 7 : Nat) : Int) < (t : Int) := by omega
      have i16 : ((t - 16 : Nat) : Int) < (t : Int) := by omega
      have r3 := fun x => u32_shr x 3 (by omega)
      have r10 := fun x => u32_shr x 10 (by omega)
      have hw : sg1 ((sch b t).getD (t - 2) 0) + (sch b t).getD (t - 7) 0 + sg0 ((sch b t).getD (t - 15) 0) + (sch b t).getD (t - 16) 0 = next b (sch b t) t := by
        unfold next
        rw [if_neg (by omega)]
        ac_rfl
      have hs0 : ∀ x, tr x 7 ^^^ tr x 18 ^^^ x >>> UInt32.ofNat 3 = sg0 x := fun x => rfl
      have hs1 : ∀ x, tr x 17 ^^^ tr x 19 ^^^ x >>> UInt32.ofNat 10 = sg1 x := fun x => rfl
      repeat refine St (And.intro hlt <| And.intro h16 <| And.intro g15 <| And.intro g2 <| And.intro g7 <| And.intro g16 <| And.intro m15 <| And.intro m2 <| And.intro m7 <| And.intro m16 <| And.intro l15 <| And.intro l2 <| And.intro l7 <| And.intro l16 <| And.intro i15 <| And.intro i2 <| And.intro i7 <| And.intro i16 <| And.intro r3 <| And.intro r10 <| And.intro @turn7 <| And.intro @turn18 <| And.intro @turn17 <| And.intro @turn19 <| And.intro @u32_xor <| And.intro @u32_add <| And.intro hs0 <| And.intro hs1 <| And.intro hsl <| hk1) ct44 ?_
      exact ⟨⟨t + 1, by omega⟩, (Wt (And.intro hsn <| And.intro hw <| @u32T.eq_def) [0, 1, 2, 7, 8] [2]), by simp only; omega⟩
  obtain rfl : t = 64 := by omega
  repeat refine St (And.intro hlt <| And.intro @a8_eq <| @a8.eq_def) ct44 ?_
  refine AWP.loop (G := { t : Nat // t ≤ 64 }) (fun t => ⟨[(0, .t (.sq 1 (s.l.map u32T))), (1, .t (.sq 1 (kS.map u32T))), (7, .own 0), (13, .own 1), (14, .t (.int .i64 (t.1 : Int)))], [.sq 1 ((sch b 64).map u32T), .sq 1 (a8 (rnds b s t.1))]⟩) (fun t => 64 - t.1) ⟨0, by omega⟩ (Wt (And.intro (And.intro @rnds.eq_1 <| @rnds.eq_2) <| And.intro @a8.eq_def <| @a8_eq) [0, 1, 7, 13, 14] [0, 2]) ?_
  intro ⟨t, ht⟩
  dsimp only
  by_cases hlt : (t : Int) < 64
  case neg =>
    obtain rfl : t = 64 := by omega
    repeat refine St hlt ct44 ?_
    refine AWP.loop (G := { i : Nat // i ≤ 8 }) (fun i => ⟨[(0, .t (.sq 1 (s.l.map u32T))), (13, .own 0), (20, .t (.int .i64 (i.1 : Int)))], [.sq 1 (mixV s (rnds b s 64) i.1)]⟩) (fun i => 8 - i.1) ⟨0, by omega⟩ (Wt @mixV_0 [0, 13, 20] [1]) ?_
    intro ⟨i, hi⟩
    dsimp only
    generalize hv : rnds b s 64 = v
    by_cases hl8 : (i : Int) < 8
    case neg =>
      obtain rfl : i = 8 := by omega
      have hfin : blkS s b = s.add v := by rw [← hv]; rfl
      repeat refine St hl8 ct44 ?_
      exact AWP.ret (Fin (And.intro @mixV_8 <| hfin) [] [0])
    have hi8 : i < 8 := by omega
    have hml := mixV_len s v i (by omega)
    have hsl : (List.map u32T s.l).length = 8 := rfl
    have g1 := mixV_get s v i hi8
    have g2 := a8_get s i hi8
    have g3 := mixV_set s v i hi8
    have hk1 : IntKind.i64.wrap ((i : Int) + 1) = ((i + 1 : Nat) : Int) := by rw [wrap_i64 (by omega) (by omega)]; omega
    repeat refine St (And.intro hl8 <| And.intro hi8 <| And.intro hml <| And.intro hsl <| And.intro g1 <| And.intro g2 <| And.intro g3 <| And.intro @u32_add <| And.intro hk1 <| @T.size.eq_def) ct44 ?_
    exact ⟨⟨i + 1, by omega⟩, (Wt trivial [0, 13, 20] [0]), by simp only; omega⟩
  have ht64 : t < 64 := by omega
  have hk1 : IntKind.i64.wrap ((t : Int) + 1) = ((t + 1 : Nat) : Int) := by rw [wrap_i64 (by omega) (by omega)]; omega
  have hkl : (List.map u32T kS).length = 64 := by simp [kS_len]
  have hwl : (List.map u32T (sch b 64)).length = 64 := by simp [sch_len]
  have hkg : (List.map u32T kS).getD t default = .int .u32 ((kS.getD t 0).toNat : Int) := u32T_getD (by rw [kS_len]; exact ht64)
  have hwg : (List.map u32T (sch b 64)).getD t default = .int .u32 (((sch b 64).getD t 0).toNat : Int) := u32T_getD (by rw [sch_len]; exact ht64)
  have hnx : rnds b s (t + 1) = rnd (rnds b s t) (kS.getD t 0) ((sch b 64).getD t 0) := rfl
  generalize rnds b s t = v at *
  generalize kS.getD t 0 = k at *
  generalize (sch b 64).getD t 0 = w at *
  repeat refine St (And.intro hlt <| And.intro @a8.eq_def <| And.intro hkl <| And.intro hwl <| And.intro hkg <| And.intro hwg <| And.intro ht64 <| And.intro hk1 <| And.intro @turn2 <| And.intro @turn6 <| And.intro @turn11 <| And.intro @turn13 <| And.intro @turn22 <| And.intro @turn25 <| And.intro @u32_xor <| And.intro @u32_and <| And.intro @u32_add <| And.intro @u32_xff <| @T.size.eq_def) ct44 ?_
  exact ⟨⟨t + 1, by omega⟩, (Wt (And.intro hnx <| And.intro @rnd.eq_def <| And.intro @t1S.eq_def <| And.intro @t2S.eq_def <| @a8.eq_def) [0, 1, 7, 13, 14] [0, 2]), by simp only; omega⟩

end Go.Fw

end

section
/- Chapter 7's answer: the hash, twice, behind a tag. -/
namespace Go.Fw
open Go Go.Proofs
set_option linter.unusedVariables false
set_option linter.unusedSimpArgs false

def F42 : Fun
  | [] => some ([.sq 1 (kS.map u32T)], .own 0)
  | _ => none

theorem ct42 : CT [] [0] [] := ⟨GClOk.nil _⟩

set_option maxRecDepth 100000 in
theorem c42 : ACon Try.prog 42 F42 := by
  refine aconc E_ok (rs := [.tmp 0 65]) Try.func42 rfl Try.ntmps42 (by kernel_rfl) rfl (by decide) F42 (np := 0) ?_ ?_
  · intro ts h; unfold F42; split <;> first | rfl | (simp at h; done)
  intro ts H r hF hwf
  unfold F42 at hF
  split at hF <;> try (cases hF; done)
  cases hF
  repeat refine St trivial ct42 ?_
  exact AWP.ret (Fin @kT_eq [] [0])

noncomputable def F37 : Fun
  | [.by b] => if b.length ≤ 1000000000 then some ([], .t (.ba 32 (shaL b))) else none
  | _ => none

theorem ct37 : CT [(42, ⟨[], treeG F42⟩), (43, ⟨[false], treeG F43⟩), (44, ⟨[false, false, false], treeG F44⟩)] [0, 2, 3, 4, 5, 6, 7, 8, 16, 29] [] := ⟨(.cons c42.g (.cons c43.g (.cons c44.g (.nil _))))⟩

theorem padS_long (b : List UInt8) : (padS b b.length).length ≤ b.length + 73 := by
  simp only [padS, List.length_append, List.length_cons, repl_len, be8_len, padK]; omega

set_option maxRecDepth 100000 in
set_option maxHeartbeats 2000000 in
theorem c37 : ACon Try.prog 37 F37 := by
  refine aconc E_ok (rs := [.cell 2 56]) Try.func37 rfl Try.ntmps37 (by kernel_rfl) rfl (by decide) F37 (np := 1) ?_ ?_
  · intro ts h; unfold F37; split <;> first | rfl | (simp at h; done)
  intro ts H r hF hwf
  unfold F37 at hF
  split at hF <;> try (cases hF; done)
  rename_i b
  split at hF
  case isFalse => cases hF
  rename_i hc
  have hb := hc
  cases hF
  have hpd : F43 [.by b] = some ([.by (padS b b.length)], .own 0) := if_pos hb
  have hpl := padS_len b b.length
  have hps := padS_long b
  have hfin : shaL b = outS (eatS h0S (padS b b.length) ((padS b b.length).length / 64)) := rfl
  obtain ⟨P, hP⟩ : ∃ P, padS b b.length = P := ⟨_, rfl⟩
  rw [hP] at hpl hfin hps hpd
  repeat refine St (And.intro hpd <| @F42.eq_def) ct37 ?_
  refine AWP.loop (G := { k : Nat // 64 * k ≤ P.length }) (fun k => ⟨[(2, .ptr 0 0 []), (3, .own 1), (4, .own 2), (5, .own 3), (6, .t (.int .i64 ((64 * k.1 : Nat) : Int)))], [.bx (.t (.ba 32 (zby 32))), .sq 1 ((eatS h0S P k.1).l.map u32T), .sq 1 (kS.map u32T), .by P]⟩) (fun k => P.length - 64 * k.1) ⟨0, by omega⟩ (Wt (And.intro (And.intro @eatS.eq_1 <| @eatS.eq_2) <| And.intro @a8_eq <| And.intro @a8.eq_def <| And.intro @h0S.eq_def <| @Nat.mul_zero) [2, 3, 4, 5, 6] [0, 1, 2, 3]) ?_
  intro ⟨k, hk⟩
  dsimp only
  have hnx : eatS h0S P (k + 1) = blkS (eatS h0S P k) ((P.drop (64 * k)).take 64) := rfl
  obtain ⟨v, hv⟩ : ∃ v, eatS h0S P k = v := ⟨_, rfl⟩
  rw [hv] at hnx ⊢
  by_cases hlt : ((64 * k : Nat) : Int) < (P.length : Int)
  case pos =>
    have h64' : 64 * k + 64 ≤ P.length := by omega
    have htl : ((P.drop (64 * k)).take 64).length = 64 := by simp; omega
    have hte : 64 * k + 64 - 64 * k = 64 := by omega
    have hbl := block_c v htl
    have hk1 : IntKind.i64.wrap (((64 * k : Nat) : Int) + 64) = ((64 * k + 64 : Nat) : Int) := by rw [wrap_i64 (by omega) (by omega)]; omega
    have hk2 : 64 * k + 64 = 64 * (k + 1) := by omega
    repeat refine St (And.intro hlt <| And.intro hk1 <| And.intro hte <| And.intro hbl <| @clean_u32) ct37 ?_
    exact ⟨⟨k + 1, by omega⟩, (Wt (And.intro hnx <| hk2) [2, 3, 4, 5, 6] [0, 4, 2, 3]), by simp only; omega⟩
  have hkk : k = P.length / 64 := by omega
  rw [← hkk, hv] at hfin
  repeat refine St hlt ct37 ?_
  refine AWP.loop (G := { p : Nat // p ≤ 32 }) (fun p => ⟨[(2, .ptr 0 0 []), (3, .own 1), (7, .ptr 2 0 []), (8, .t (.int .i64 (p.1 : Int)))], [.bx (.t (.ba 32 (zby 32))), .sq 1 (v.l.map u32T), .bx (.t (.ba 32 (outM v p.1)))]⟩) (fun p => 32 - p.1) ⟨0, by omega⟩ (Wt @outM_0 [2, 3, 7, 8] [0, 1, 4]) ?_
  intro ⟨p, hp⟩
  dsimp only
  have hol := outM_len v p
  by_cases hp32i : (p : Int) < 32
  case neg =>
    obtain rfl : p = 32 := by omega
    have ho := outM_32 v
    repeat refine St (And.intro hp32i <| And.intro @T.size.eq_def <| And.intro ho <| hol) ct37 ?_
    exact AWP.ret (Fin hfin [] [])
  have hp32 : p < 32 := by omega
  have hvl : (List.map u32T v.l).length = 8 := rfl
  have hp8 : p / 4 < 8 := by omega
  have hp8i : ((p / 4 : Nat) : Int) < 8 := by omega
  have hvg := a8_get v (p / 4) hp8
  have hq : IntKind.i64.wrap (Int.tdiv (p : Int) 4) = ((p / 4 : Nat) : Int) := by
    rw [Int.tdiv_eq_ediv_of_nonneg (by omega), wrap_i64 (by omega) (by omega)]; omega
  have hr : IntKind.i64.wrap (Int.tmod (p : Int) 4) = ((p % 4 : Nat) : Int) := by
    rw [Int.tmod_eq_emod_of_nonneg (by omega), wrap_i64 (by omega) (by omega)]; omega
  have hm8 : IntKind.i64.wrap (8 * ((p % 4 : Nat) : Int)) = ((8 * (p % 4) : Nat) : Int) := by rw [wrap_i64 (by omega) (by omega)]; omega
  have hm24 : IntKind.i64.wrap (24 - ((8 * (p % 4) : Nat) : Int)) = ((24 - 8 * (p % 4) : Nat) : Int) := by rw [wrap_i64 (by omega) (by omega)]; omega
  have hmu : IntKind.u64.wrap ((24 - 8 * (p % 4) : Nat) : Int) = ((24 - 8 * (p % 4) : Nat) : Int) := wrap_u64 (by omega) (by omega)
  have hnn : ¬ ((24 - 8 * (p % 4) : Nat) : Int) < 0 := by omega
  have hsh := u32_shr (v.l.getD (p / 4) 0) (24 - 8 * (p % 4)) (by omega)
  have hob : ((v.l.getD (p / 4) 0) >>> UInt32.ofNat (24 - 8 * (p % 4))).toUInt8 = outB v p := rfl
  have hset := outM_set v hp32
  have hof : ∀ c : UInt8, UInt8.ofNat c.toNat = c := fun c => by simp
  have hkj : IntKind.i64.wrap ((p : Int) + 1) = ((p + 1 : Nat) : Int) := by rw [wrap_i64 (by omega) (by omega)]; omega
  repeat refine St (And.intro hp32i <| And.intro hp32 <| And.intro hvl <| And.intro hp8 <| And.intro hp8i <| And.intro hvg <| And.intro hq <| And.intro hr <| And.intro hm8 <| And.intro hm24 <| And.intro hmu <| And.intro hnn <| And.intro hsh <| And.intro @u8_of_u32 <| And.intro hob <| And.intro hof <| And.intro hset <| And.intro hol <| And.intro hkj <| @T.size.eq_def) ct37 ?_
  exact ⟨⟨p + 1, by omega⟩, (Wt trivial [2, 3, 7, 8] [0, 1, 2]), by simp only; omega⟩

theorem refsum_c {b : List UInt8} (h : b.length ≤ 1000000000) : F37 [.by b] = some ([], .t (.ba 32 (shaL b))) := if_pos h

noncomputable def F32 : Fun
  | [.by b] => if b.length ≤ 1000000000 then some ([], .t (.ba 32 (shaL (shaL b)))) else none
  | _ => none

theorem ct32 : CT [(37, ⟨[false], treeG F37⟩)] [0, 2, 3] [] := ⟨(.cons c37.g (.nil _))⟩

theorem c32 : ACon Try.prog 32 F32 := by
  refine aconc E_ok (rs := [.cell 2 56]) Try.func32 rfl Try.ntmps32 (by kernel_rfl) rfl (by decide) F32 (np := 1) ?_ ?_
  · intro ts h; unfold F32; split <;> first | rfl | (simp at h; done)
  intro ts H r hF hwf
  unfold F32 at hF
  split at hF <;> try (cases hF; done)
  rename_i b
  split at hF
  case isFalse => cases hF
  rename_i hc
  have hb := hc
  cases hF
  have h1 := refsum_c hb
  have hl := shaL_len b
  have h2 : F37 [.by (shaL b)] = some ([], .t (.ba 32 (shaL (shaL b)))) := refsum_c (by omega)
  generalize shaL (shaL b) = y at *
  obtain ⟨x, hx⟩ : ∃ x, shaL b = x := ⟨_, rfl⟩
  rw [hx] at h1 hl h2
  have ht : x.take 32 = x := List.take_of_length_le (by omega)
  repeat refine St (And.intro h1 <| And.intro hl <| And.intro h2 <| ht) ct32 ?_
  exact AWP.ret (Fin trivial [] [])


end Go.Fw

end

section
/- compact's answer: bytes laid. -/
namespace Go.Fw
open Go Go.Proofs
set_option linter.unusedVariables false
set_option linter.unusedSimpArgs false

def F23 : Fun
  | [.by b, .int .u64 n, .int .i64 m] => if b.length ≤ 549755813000 ∧ 0 ≤ m ∧ m ≤ 16 then some ([.by (b ++ le m.toNat n)], .own 0) else none
  | _ => none

theorem ct23 : CT [] [0, 1, 2, 6, 7, 8, 14] [] := ⟨GClOk.nil _⟩

theorem c23 : ACon Try.prog 23 F23 := by
  refine aconc E_ok (rs := [.tmp 6 22]) Try.func23 rfl Try.ntmps23 (by kernel_rfl) rfl (by decide) F23 (np := 3) ?_ ?_
  · intro ts h; unfold F23; split <;> first | rfl | (simp at h; done)
  intro ts H r hF hwf
  unfold F23 at hF
  split at hF <;> try (cases hF; done)
  rename_i b n m
  split at hF
  case isFalse => cases hF
  rename_i hc
  obtain ⟨hb, h0, h1⟩ := hc
  cases hF
  have hn := inK_u64 (hwf (.int .u64 n) (by simp))
  repeat refine St trivial ct23 ?_
  refine AWP.loop (G := { k : Nat // k ≤ m.toNat }) (fun k => ⟨[(1, .t (.int .u64 (shrB k.1 n))), (2, .t (.int .i64 m)), (7, .own 0), (8, .t (.int .i64 (k.1 : Int)))], [.by (b ++ le k.1 n)]⟩)
    (fun k => m.toNat - k.1) ⟨0, by omega⟩ (Wt (And.intro (And.intro @shrB.eq_1 <| @shrB.eq_2) <| (And.intro @le.eq_1 <| @le.eq_2)) [1, 2, 7, 8] [1]) ?_
  intro ⟨k, hk⟩
  dsimp only
  by_cases hlt : (k : Int) < m
  · have hl : (b ++ le k n).length ≤ 549755813100 := by simp [le_len]; omega
    have hr := shrB_range k n hn.1 hn.2
    have hq : IntKind.u64.wrap ((shrB k n).tdiv 256) = (shrB k n).fdiv 256 := by
      rw [tdiv_256 hr.1]
      have := shrB_range (k + 1) n hn.1 hn.2
      exact wrap_u64 this.1 this.2
    repeat refine St (And.intro hq <| @le_len) ct23 ?_
    exact ⟨⟨k + 1, by omega⟩, (Wt (And.intro (And.intro @shrB.eq_1 <| @shrB.eq_2) <| And.intro (And.intro @le.eq_1 <| @le.eq_2) <| @List.append_assoc.{0}) [1, 2, 7, 8] [2]), by simp only; omega⟩
  · obtain rfl : k = m.toNat := by omega
    repeat refine St trivial ct23 ?_
    exact AWP.ret (Fin trivial [] [0])

theorem put_c {b : List UInt8} (n : Int) (m : Int) (hb : b.length ≤ 549755813000) (h0 : 0 ≤ m) (h1 : m ≤ 16) : F23 [.by b, .int .u64 n, .int .i64 m] = some ([.by (b ++ le m.toNat n)], .own 0) := if_pos ⟨hb, h0, h1⟩

end Go.Fw

end

section
/- compact's answer: bytes taken apart. -/
namespace Go.Fw
open Go Go.Proofs
set_option linter.unusedVariables false
set_option linter.unusedSimpArgs false

def F35 : Fun
  | [.by b, .int .i64 n] => if b.length ≤ 549755813000 then some ([], .tup [.t (.by (spA b n)), .t (.by (spB b n)), .t (.int .i64 (spE b n))]) else none
  | _ => none

theorem ct35 : CT [] [0, 1, 4, 5, 6, 7, 8, 10, 14] [] := ⟨GClOk.nil _⟩

theorem c35 : ACon Try.prog 35 F35 := by
  refine aconc E_ok (rs := [.tmp 4 22, .tmp 5 22, .tmp 6 24]) Try.func35 rfl Try.ntmps35 (by kernel_rfl) rfl (by decide) F35 (np := 2) ?_ ?_
  · intro ts h; unfold F35; split <;> first | rfl | (simp at h; done)
  intro ts H r hF hwf
  unfold F35 at hF
  split at hF <;> try (cases hF; done)
  rename_i b n
  split at hF
  case isFalse => cases hF
  rename_i hc
  have hb := hc
  cases hF
  by_cases h1 : n < 0
  · repeat refine St trivial ct35 ?_
    exact AWP.ret (Fin (And.intro @spA.eq_def <| And.intro @spB.eq_def <| And.intro @spE.eq_def <| h1) [] [])
  by_cases h2 : (b.length : Int) < n
  · repeat refine St trivial ct35 ?_
    exact AWP.ret (Fin (And.intro @spA.eq_def <| And.intro @spB.eq_def <| And.intro @spE.eq_def <| And.intro h1 <| h2) [] [])
  repeat refine St trivial ct35 ?_
  exact AWP.ret (Fin (And.intro @spA.eq_def <| And.intro @spB.eq_def <| And.intro @spE.eq_def <| And.intro h1 <| h2) [1, 3] [])

def F29 : Fun
  | [.by b, .int .i64 n] => if b.length ≤ 549755813000 ∧ n ≤ 8 then some ([], .tup [.t (.int .u64 (num (spA b n))), .t (.by (spB b n)), .t (.int .i64 (spE b n))]) else none
  | _ => none

theorem ct29 : CT [(35, ⟨[false, false], treeG F35⟩)] [0, 1, 4, 5, 6, 7, 8, 9, 10, 11, 23] [] := ⟨(.cons c35.g (.nil _))⟩

theorem c29 : ACon Try.prog 29 F29 := by
  refine aconc E_ok (rs := [.tmp 4 49, .tmp 5 22, .tmp 6 24]) Try.func29 rfl Try.ntmps29 (by kernel_rfl) rfl (by decide) F29 (np := 2) ?_ ?_
  · intro ts h; unfold F29; split <;> first | rfl | (simp at h; done)
  intro ts H r hF hwf
  unfold F29 at hF
  split at hF <;> try (cases hF; done)
  rename_i b n
  split at hF
  case isFalse => cases hF
  rename_i hc
  obtain ⟨hb, hn⟩ := hc
  cases hF
  have h8 := spA_le b n 8 hn
  have ht : F35 [.by b, .int .i64 n] = some ([], .tup [.t (.by (spA b n)), .t (.by (spB b n)), .t (.int .i64 (spE b n))]) := if_pos hb
  generalize hx : spA b n = x at *
  repeat refine St ht ct29 ?_
  have hz : num (x.drop x.length) = 0 := by simp [num]
  refine AWP.loop (G := { k : Nat // k ≤ x.length }) (fun k => ⟨[(7, .t (.by x)), (8, .t (.by (spB b n))), (9, .t (.int .i64 (spE b n))), (10, .t (.int .u64 (num (x.drop k.1)))), (11, .t (.int .i64 ((k.1 : Int) - 1)))], []⟩)
    (fun k => k.1) ⟨x.length, by omega⟩ (Wt (And.intro hz <| (And.intro @num.eq_1 <| @num.eq_2)) [7, 8, 9, 10, 11] []) ?_
  intro ⟨k, hk⟩
  dsimp only
  by_cases hlt : 0 ≤ (k : Int) - 1
  · obtain ⟨j, rfl⟩ : ∃ j, k = j + 1 := ⟨k - 1, by omega⟩
    have hj : (((j + 1 : Nat) : Int) - 1) = (j : Int) := by omega
    have hd := num_drop x j (by omega)
    have h88 := num_lt8 (x.drop j) (by simp; omega)
    have hc := (x.getD j 0).toNat_lt
    have hw1 : IntKind.u64.wrap ((num (x.drop (j + 1)) : Int) * 256) = (num (x.drop (j + 1)) : Int) * 256 := wrap_u64 (by omega) (by omega)
    have hw2 : IntKind.u64.wrap ((x.getD j 0).toNat : Int) = ((x.getD j 0).toNat : Int) := wrap_u64 (by omega) (by omega)
    have hw3 : IntKind.u64.wrap ((num (x.drop (j + 1)) : Int) * 256 + ((x.getD j 0).toNat : Int)) = (num (x.drop j) : Int) := by rw [wrap_u64 (by omega) (by omega)]; omega
    have hjx : j < x.length := by omega
    repeat refine St (And.intro hj <| And.intro hw1 <| And.intro hw2 <| And.intro hw3 <| hjx) ct29 ?_
    exact ⟨⟨j, by omega⟩, (Wt trivial [7, 8, 9, 10, 11] []), by simp only; omega⟩
  · obtain rfl : k = 0 := by omega
    repeat refine St trivial ct29 ?_
    exact AWP.ret (Fin (@List.drop_zero.{0}) [] [])

theorem number_c (l : List UInt8) (n : Int) (h0 : l.length ≤ 549755813000) (h : n ≤ 8) : F29 [.by l, .int .i64 n] = some ([], .tup [.t (.int .u64 (num (spA l n))), .t (.by (spB l n)), .t (.int .i64 (spE l n))]) := if_pos ⟨h0, h⟩

end Go.Fw

end

section
/- frame's answer. -/
namespace Go.Fw
open Go Go.Proofs
set_option linter.unusedVariables false
set_option linter.unusedSimpArgs false

def F22 : Fun
  | [] => some ([.by mag], .own 0)
  | _ => none

theorem ct22 : CT [] [0] [] := ⟨GClOk.nil _⟩

theorem c22 : ACon Try.prog 22 F22 := by
  refine aconc E_ok (rs := [.tmp 0 22]) Try.func22 rfl Try.ntmps22 (by kernel_rfl) rfl (by decide) F22 (np := 0) ?_ ?_
  · intro ts h; unfold F22; split <;> first | rfl | (simp at h; done)
  intro ts H r hF hwf
  unfold F22 at hF
  split at hF <;> try (cases hF; done)
  cases hF
  have hm : ([UInt8.ofNat 229, UInt8.ofNat 29, UInt8.ofNat 10, UInt8.ofNat 23] : List UInt8) = mag := rfl
  repeat refine St trivial ct22 ?_
  exact AWP.ret (Fin hm [] [0])

noncomputable def F24 : Fun
  | [.by b] => if b.length ≤ 1000000 then some ([], .t (.by (sumF dblL b))) else none
  | _ => none

theorem ct24 : CT [(32, ⟨[false], treeG F32⟩)] [0, 2, 3] [] := ⟨(.cons c32.g (.nil _))⟩

theorem c24 : ACon Try.prog 24 F24 := by
  refine aconc E_ok (rs := [.tmp 2 22]) Try.func24 rfl Try.ntmps24 (by kernel_rfl) rfl (by decide) F24 (np := 1) ?_ ?_
  · intro ts h; unfold F24; split <;> first | rfl | (simp at h; done)
  intro ts H r hF hwf
  unfold F24 at hF
  split at hF <;> try (cases hF; done)
  rename_i b
  split at hF
  case isFalse => cases hF
  rename_i hc
  have hb := hc
  cases hF
  have hd : F32 [.by b] = some ([], .t (.ba 32 (dblL b))) := if_pos (by omega)
  have hl := dblL_len b
  have hs : sumF dblL b = (dblL b).take 4 := rfl
  generalize dblL b = x at *
  repeat refine St (And.intro hd <| hl) ct24 ?_
  exact AWP.ret (Fin (And.intro hs <| hl) [0] [])

noncomputable def F11 : Fun
  | [.int .u8 n, .by p] => some ([], .tup [.t (.by (encF dblL (UInt8.ofNat n.toNat) p).1), .t (.int .i64 (encF dblL (UInt8.ofNat n.toNat) p).2)])
  | _ => none

theorem ct11 : CT [(22, ⟨[], treeG F22⟩), (23, ⟨[false, false, false], treeG F23⟩), (24, ⟨[false], treeG F24⟩)] [0, 1, 4, 5, 6, 12, 15] [] := ⟨(.cons c22.g (.cons c23.g (.cons c24.g (.nil _))))⟩

theorem c11 : ACon Try.prog 11 F11 := by
  refine aconc E_ok (rs := [.tmp 4 22, .tmp 5 24]) Try.func11 rfl Try.ntmps11 (by kernel_rfl) rfl (by decide) F11 (np := 2) ?_ ?_
  · intro ts h; unfold F11; split <;> first | rfl | (simp at h; done)
  intro ts H r hF hwf
  unfold F11 at hF
  split at hF <;> try (cases hF; done)
  rename_i n p
  cases hF
  obtain ⟨c, rfl⟩ := u8_ex (hwf (.int .u8 n) (by simp))
  simp only [Int.toNat_natCast, u8_of]
  by_cases h1 : okC c.toNat
  case neg =>
    have he : encF dblL c p = ([], 56) := by unfold encF; rw [if_pos h1]
    by_cases h1a : (c.toNat : Int) < 1
    · repeat refine St h1a ct11 ?_
      exact AWP.ret (Fin he [] [])
    · have h1b : 9 < (c.toNat : Int) := by
        by_cases h : 9 < (c.toNat : Int)
        · exact h
        · exact absurd ⟨by omega, by omega⟩ h1
      repeat refine St (And.intro h1a <| h1b) ct11 ?_
      exact AWP.ret (Fin he [] [])
  have h1a : ¬ (c.toNat : Int) < 1 := by have := h1.1; omega
  have h1b : ¬ 9 < (c.toNat : Int) := by have := h1.2; omega
  by_cases h2 : 45000 < (p.length : Int)
  · have he : encF dblL c p = ([], 4) := by unfold encF; rw [if_neg (by simpa using h1), if_pos (by omega)]
    repeat refine St (And.intro h1a <| And.intro h1b <| h2) ct11 ?_
    exact AWP.ret (Fin he [] [])
  have he : encF dblL c p = (frm dblL c p, 0) := by unfold encF; rw [if_neg (by simpa using h1), if_neg (by omega)]
  have hf : frm dblL c p = mag ++ [c] ++ le 4 p.length ++ sumF dblL p ++ p := rfl
  have hs : F24 [.by p] = some ([], .t (.by (sumF dblL p))) := if_pos (by omega)
  have hl := sumF_len p
  have hw : IntKind.u64.wrap (p.length : Int) = (p.length : Int) := wrap_u64 (by omega) (by omega)
  have hml : mag.length = 4 := rfl
  have hp : F23 [.by (mag ++ [c]), .int .u64 (p.length : Int), .int .i64 4] = some ([.by (mag ++ [c] ++ le 4 p.length)], .own 0) := put_c _ 4 (by simp [hml]) (by omega) (by omega)
  have hl2 : (mag ++ [c] ++ le 4 (p.length : Int)).length = 9 := by simp [hml, le_len]
  have hmg : F22 [] = some ([.by mag], .own 0) := rfl
  generalize sumF dblL p = s at *
  generalize le 4 (p.length : Int) = q at *
  generalize mag = m at *
  have hl3 : (m ++ [c] ++ q ++ s).length = 13 := by simp only [List.length_append] at hl2 ⊢; omega
  repeat refine St (And.intro h1a <| And.intro h1b <| And.intro h2 <| And.intro hmg <| And.intro hml <| And.intro @u8_of <| And.intro hw <| And.intro hp <| And.intro hs <| And.intro hl <| And.intro hl2 <| hl3) ct11 ?_
  exact AWP.ret (Fin (And.intro he <| hf) [5] [])

/-- The first so many bytes alike. -/
def eqM (d : List UInt8) (k : Nat) : Bool := d.take k == mag.take k
theorem eqM_0 (d : List UInt8) : eqM d 0 = true := rfl
theorem eqM_end (d : List UInt8) {k : Nat} (h : min d.length 4 = k) : begF d = eqM d k := by unfold begF eqM; rw [h]
theorem tk1 (l : List UInt8) {k : Nat} (h : k < l.length) : l.take (k + 1) = l.take k ++ [l.getD k 0] := by
  rw [List.take_succ_eq_append_getElem h]; simp [h]
theorem mag_len : mag.length = 4 := rfl
theorem eqM_succ (d : List UInt8) {k : Nat} (h : k < d.length) (h4 : k < 4) : eqM d (k + 1) = (eqM d k && (d.getD k 0 == mag.getD k 0)) := by
  unfold eqM
  rw [tk1 d h, tk1 mag (by rw [mag_len]; exact h4)]
  have hl : (d.take k).length = (mag.take k).length := by simp [mag_len]; omega
  generalize d.take k = a at *
  generalize mag.take k = b at *
  generalize d.getD k 0 = x
  generalize mag.getD k 0 = y
  by_cases hab : a = b
  · subst hab
    by_cases hxy : x = y
    · subst hxy; simp
    · have h1 : (a ++ [x] == a ++ [y]) = false := by simpa using hxy
      have h2 : (x == y) = false := by simpa using hxy
      rw [h1, h2, Bool.and_false]
  · have h1 : (a ++ [x] == b ++ [y]) = false := by
      rw [beq_eq_false_iff_ne]
      intro h
      exact hab (List.append_inj_left h hl)
    have h2 : (a == b) = false := by simpa using hab
    rw [h1, h2, Bool.false_and]
theorem eqM_less (d : List UInt8) {k n : Nat} (hk : k ≤ n) (h : eqM d n = true) : eqM d k = true := by
  unfold eqM at *
  have h1 : d.take n = mag.take n := by simpa using h
  have h2 : (d.take n).take k = (mag.take n).take k := by rw [h1]
  rw [List.take_take, List.take_take, Nat.min_eq_left hk] at h2
  rw [h2]; exact beq_self_eq_true _
theorem dget (b : List UInt8) (i k : Nat) : (b.drop i).getD k 0 = b.getD (i + k) 0 := by
  simp [List.getD_eq_getElem?_getD, List.getElem?_drop]

def F17 : Fun
  | [.by b] => if b.length ≤ 1000000 then some ([], .t (.int .i64 (findF b b.length 1 : Nat))) else none
  | _ => none

theorem ct17 : CT [(22, ⟨[], treeG F22⟩)] [0, 2, 3, 4, 5, 6, 11, 23, 40] [(9, [⟨0, [5], []⟩, ⟨0, [26], []⟩, ⟨0, [0], []⟩, ⟨0, [4], []⟩, ⟨0, [6], []⟩, ⟨0, [29, 30], []⟩, ⟨1, [28, 31], []⟩, ⟨1, [32], [6]⟩, ⟨0, [3], []⟩, ⟨0, [6], []⟩, ⟨1, [34, 35], []⟩, ⟨1, [36], [10]⟩, ⟨0, [33, 37], [6, 7, 10, 11]⟩, ⟨0, [27, 38], [6, 7, 10, 11]⟩, ⟨0, [39], [6, 7, 10, 11]⟩])] := ⟨(.cons c22.g (.nil _))⟩

set_option maxHeartbeats 1000000 in
theorem c17 : ACon Try.prog 17 F17 := by
  refine aconc E_ok (rs := [.tmp 2 3]) Try.func17 rfl Try.ntmps17 (by kernel_rfl) rfl (by decide) F17 (np := 1) ?_ ?_
  · intro ts h; unfold F17; split <;> first | rfl | (simp at h; done)
  intro ts H r hF hwf
  unfold F17 at hF
  split at hF <;> try (cases hF; done)
  rename_i b
  split at hF
  case isFalse => cases hF
  rename_i hc
  have hb := hc
  cases hF
  have hml := mag_len
  have hmg : F22 [] = some ([.by mag], .own 0) := rfl
  repeat refine St hmg ct17 ?_
  refine AWP.loop (G := { p : Nat × Nat // p.2 ≤ 1000001 ∧ p.1 + p.2 = b.length + 1 ∧ findF b p.1 p.2 = findF b b.length 1 }) (fun p => ⟨[(0, .t (.by b)), (3, .own 0), (4, .t (.int .i64 (p.1.2 : Int)))], [.by mag]⟩) (fun p => p.1.1) ⟨(b.length, 1), by dsimp only; omega, by dsimp only, rfl⟩ (Wt trivial [0, 3, 4] [0]) ?_
  intro ⟨⟨n, i⟩, hi, hki, hf⟩
  dsimp only at hi hki hf ⊢
  by_cases h1 : (i : Int) < (b.length : Int)
  case neg =>
    have hf' : findF b b.length 1 = b.length := by
      rw [← hf]
      cases n with
      | zero => rfl
      | succ k => rw [findF_step, if_neg (by omega)]
    repeat refine St trivial ct17 ?_
    exact AWP.ret (Fin hf' [] [])
  obtain ⟨n, rfl⟩ : ∃ j, n = j + 1 := ⟨n - 1, by omega⟩
  rw [findF_step, if_pos (by omega)] at hf
  have hdl : (b.drop i).length = b.length - i := by simp
  repeat refine St trivial ct17 ?_
  refine AWP.loop (G := { k : Nat // k ≤ 4 ∧ i + k ≤ b.length }) (fun k => ⟨[(0, .t (.by b)), (3, .own 0), (4, .t (.int .i64 (i : Int))), (5, .t (.bool (eqM (b.drop i) k.1))), (6, .t (.int .i64 (k.1 : Int)))], [.by mag]⟩) (fun k => 4 - k.1) ⟨0, by omega⟩ (Wt @eqM_0 [0, 3, 4, 5, 6] [0]) ?_
  intro ⟨k, hk4, hkb⟩
  dsimp only
  have hik : IntKind.i64.wrap ((i : Int) + (k : Int)) = ((i + k : Nat) : Int) := by rw [wrap_i64 (by omega) (by omega)]; omega
  by_cases hc4 : (k : Int) < 4
  · by_cases hcl : ((i + k : Nat) : Int) < (b.length : Int)
    · have hs := eqM_succ (b.drop i) (k := k) (by omega) (by omega)
      rw [dget] at hs
      have hikb : i + k < b.length := by omega
      have hk4' : k < 4 := by omega
      have hb8 : ∀ x y : UInt8, (((x.toNat : Nat) : Int) == ((y.toNat : Nat) : Int)) = (x == y) := fun x y => by
        by_cases h : x = y
        · subst h; simp
        · have h1 : (x == y) = false := by simpa using h
          rw [h1, beq_eq_false_iff_ne]
          intro h2
          exact h (UInt8.toNat_inj.1 (by omega))
      obtain ⟨j, hj⟩ : ∃ j, i + k = j := ⟨_, rfl⟩
      rw [hj] at hik hcl hikb hs
      cases hb0 : eqM (b.drop i) k
      · rw [hb0, Bool.false_and] at hs
        repeat refine St (And.intro hc4 <| And.intro hcl <| And.intro hik <| And.intro hikb <| And.intro hk4' <| hml) ct17 ?_
        exact ⟨⟨k + 1, by omega, by omega⟩, (Wt hs [0, 3, 4, 5, 6] [0]), by dsimp only; omega⟩
      · rw [hb0, Bool.true_and] at hs
        repeat refine St (And.intro hc4 <| And.intro hcl <| And.intro hik <| And.intro hikb <| And.intro hk4' <| And.intro hml <| And.intro @u8.eq_def <| hb8) ct17 ?_
        exact ⟨⟨k + 1, by omega, by omega⟩, (Wt hs [0, 3, 4, 5, 6] [0]), by dsimp only; omega⟩
    · have he := eqM_end (b.drop i) (k := k) (by omega)
      rw [he] at hf
      cases hb0 : eqM (b.drop i) k
      · rw [hb0] at hf
        have hf' : findF b n (i + 1) = findF b b.length 1 := by simpa using hf
        repeat refine St (And.intro hc4 <| And.intro hcl <| hik) ct17 ?_
        exact ⟨⟨(n, i + 1), by dsimp only; omega, by dsimp only; omega, hf'⟩, (Wt trivial [0, 3, 4] [0]), by dsimp only; omega⟩
      · rw [hb0] at hf
        have hf' : findF b b.length 1 = i := by simpa using hf.symm
        repeat refine St (And.intro hc4 <| And.intro hcl <| hik) ct17 ?_
        exact AWP.ret (Fin hf' [] [])
  · have he := eqM_end (b.drop i) (k := k) (by omega)
    rw [he] at hf
    cases hb0 : eqM (b.drop i) k
    · rw [hb0] at hf
      have hf' : findF b n (i + 1) = findF b b.length 1 := by simpa using hf
      repeat refine St hc4 ct17 ?_
      exact ⟨⟨(n, i + 1), by dsimp only; omega, by dsimp only; omega, hf'⟩, (Wt trivial [0, 3, 4] [0]), by dsimp only; omega⟩
    · rw [hb0] at hf
      have hf' : findF b b.length 1 = i := by simpa using hf.symm
      repeat refine St hc4 ct17 ?_
      exact AWP.ret (Fin hf' [] [])

end Go.Fw

end

section
/- frame's answer: taking, all. -/
namespace Go.Fw
open Go Go.Proofs
set_option linter.unusedVariables false
set_option linter.unusedSimpArgs false

noncomputable def F13 : Fun
  | [.by b] => if b.length ≤ 1000000 then some (resT (takF dblL b)) else none
  | _ => none

theorem ct13 : CT [(22, ⟨[], treeG F22⟩), (24, ⟨[false], treeG F24⟩), (29, ⟨[false, false], treeG F29⟩)] [0, 2, 3, 4, 5, 6, 7, 8, 11, 20, 31, 34, 44, 53, 59, 71] [(5, [⟨0, [0], []⟩, ⟨0, [7], []⟩, ⟨1, [23, 24], []⟩, ⟨1, [25], [2]⟩, ⟨0, [6], []⟩, ⟨0, [7], []⟩, ⟨1, [27, 28], []⟩, ⟨1, [29], [6]⟩, ⟨0, [26, 30], [2, 3, 6, 7]⟩]), (17, [⟨0, [11], []⟩, ⟨1, [65], []⟩, ⟨1, [66], [1]⟩, ⟨0, [0], []⟩, ⟨1, [68], []⟩, ⟨1, [69], [4]⟩, ⟨0, [67, 70], [1, 2, 4, 5]⟩]), (19, [⟨0, [0], []⟩, ⟨1, [72], []⟩, ⟨1, [73], [1]⟩, ⟨0, [11], []⟩, ⟨0, [0], []⟩, ⟨0, [8], []⟩, ⟨1, [77], []⟩, ⟨0, [78], [6]⟩, ⟨1, [76, 79], [6]⟩, ⟨0, [74], [1, 2]⟩, ⟨0, [75], [1, 2]⟩, ⟨0, [80], [1, 2, 6, 8]⟩, ⟨0, [], [1, 2, 6, 8]⟩])] := ⟨(.cons c22.g (.cons c24.g (.cons c29.g (.nil _))))⟩

theorem cutn (b : List UInt8) (n : Nat) : List.drop 13 (List.take (13 + n) b) = (b.drop 13).take n := by rw [List.drop_take]; congr 1; omega
theorem u8_bne (x y : UInt8) : (((x.toNat : Nat) : Int) != ((y.toNat : Nat) : Int)) = (x != y) := by
  by_cases h : x = y
  · subst h; simp
  · have h1 : (x != y) = true := by simpa using h
    rw [h1, bne_iff_ne]
    intro h2
    exact h (UInt8.toNat_inj.1 (by omega))

set_option maxHeartbeats 4000000 in
theorem c13 : ACon Try.prog 13 F13 := by
  refine aconc E_ok (rs := [.tmp 2 5, .tmp 3 22, .tmp 4 22, .tmp 5 24]) Try.func13 rfl Try.ntmps13 (by kernel_rfl) rfl (by decide) F13 (np := 1) ?_ ?_
  · intro ts h; unfold F13; split <;> first | rfl | (simp at h; done)
  intro ts H r hF hwf
  unfold F13 at hF
  split at hF <;> try (cases hF; done)
  rename_i b
  split at hF
  case isFalse => cases hF
  rename_i hb
  have hF' := Option.some.inj hF
  have err : ∀ e : Int, e ≠ 0 → takF dblL b = ⟨0, [], [], e⟩ → H = [] ∧ r = .tup [.t (.int .u8 0), .t (.by []), .t (.by []), .t (.int .i64 e)] := fun e he h => by
    rw [h] at hF'
    have : resT ⟨0, [], [], e⟩ = ([], .tup [.t (.int .u8 0), .t (.by []), .t (.by []), .t (.int .i64 e)]) := if_neg he
    rw [this] at hF'
    cases hF'
    exact ⟨rfl, rfl⟩
  have htk := takF.eq_1 dblL b
  have hml := mag_len
  have hmg : F22 [] = some ([.by mag], .own 0) := rfl
  repeat refine St hmg ct13 ?_
  refine AWP.loop (G := { k : Nat // k ≤ 4 ∧ k ≤ b.length ∧ eqM b k = true }) (fun k => ⟨[(0, .t (.by b)), (6, .own 0), (7, .t (.int .i64 (k.1 : Int)))], [.by mag]⟩) (fun k => 4 - k.1) ⟨0, by omega, by omega, rfl⟩ (Wt trivial [0, 6, 7] [0]) ?_
  intro ⟨k, hk4, hkb, heq⟩
  dsimp only
  by_cases hgo : k < 4 ∧ k < b.length
  · obtain ⟨hk4', hkb'⟩ := hgo
    have hc4 : (k : Int) < 4 := by omega
    have hcl : (k : Int) < (b.length : Int) := by omega
    have hs := eqM_succ b hkb' hk4'
    rw [heq, Bool.true_and] at hs
    by_cases hx : b.getD k 0 = mag.getD k 0
    · have hb0 : (b.getD k 0 != mag.getD k 0) = false := by simpa using hx
      rw [hx] at hs
      repeat refine St (And.intro hc4 <| And.intro hcl <| And.intro hk4' <| And.intro hkb' <| And.intro hml <| And.intro @u8.eq_def <| And.intro @u8_bne <| hb0) ct13 ?_
      exact ⟨⟨k + 1, by omega, by omega, by rw [hs]; exact beq_self_eq_true _⟩, (Wt trivial [0, 6, 7] [0]), by dsimp only; omega⟩
    · have hb0 : (b.getD k 0 != mag.getD k 0) = true := by simpa using hx
      have hbad : begF b = false := by
        have h2 := eqM_end b (k := min b.length 4) rfl
        cases hbb : begF b
        · rfl
        · rw [h2] at hbb
          have h3 := eqM_less b (k := k + 1) (by omega) hbb
          rw [hs] at h3
          exact absurd (by simpa using h3) hx
      rw [if_pos hbad] at htk
      obtain ⟨rfl, rfl⟩ := err _ (by omega) htk
      repeat refine St (And.intro hc4 <| And.intro hcl <| And.intro hk4' <| And.intro hkb' <| And.intro hml <| And.intro @u8.eq_def <| And.intro @u8_bne <| hb0) ct13 ?_
      exact AWP.ret (Fin trivial [] [])
  have h1' : begF b = true := by rw [eqM_end b (k := k) (by omega), heq]
  rw [if_neg (by simp [h1'])] at htk
  have hstop : ∀ A : Prop, (k : Int) < 4 → (k : Int) < (b.length : Int) → A := fun A h1 h2 => absurd ⟨by omega, by omega⟩ hgo
  have hc4 : (k : Int) < 4 ∨ ¬ (k : Int) < 4 := Classical.em _
  by_cases h2 : (b.length : Int) < 13
  · rw [if_pos (by omega)] at htk
    obtain ⟨rfl, rfl⟩ := err _ (by omega) htk
    rcases hc4 with hc4 | hc4
    · have hcl : ¬ (k : Int) < (b.length : Int) := fun h => hgo ⟨by omega, by omega⟩
      repeat refine St (And.intro hc4 <| And.intro hcl <| h2) ct13 ?_
      exact AWP.ret (Fin trivial [] [])
    · repeat refine St (And.intro hc4 <| h2) ct13 ?_
      exact AWP.ret (Fin trivial [] [])
  rw [if_neg (by omega)] at htk
  have hc4 : ¬ (k : Int) < 4 := by omega
  have l4 : 4 < b.length := by omega
  by_cases h3 : okC (b.getD 4 0).toNat
  case neg =>
    rw [if_pos h3] at htk
    obtain ⟨rfl, rfl⟩ := err _ (by omega) htk
    by_cases h1a : ((b.getD 4 0).toNat : Int) < 1
    · repeat refine St (And.intro hc4 <| And.intro h2 <| And.intro l4 <| And.intro @u8.eq_def <| h1a) ct13 ?_
      exact AWP.ret (Fin trivial [] [])
    · have h1b : 9 < ((b.getD 4 0).toNat : Int) := by
        by_cases h : 9 < ((b.getD 4 0).toNat : Int)
        · exact h
        · exact absurd ⟨by omega, by omega⟩ h3
      repeat refine St (And.intro hc4 <| And.intro h2 <| And.intro l4 <| And.intro @u8.eq_def <| And.intro h1a <| h1b) ct13 ?_
      exact AWP.ret (Fin trivial [] [])
  rw [if_neg (by simpa using h3)] at htk
  have h1a : ¬ ((b.getD 4 0).toNat : Int) < 1 := by have := h3.1; omega
  have h1b : ¬ 9 < ((b.getD 4 0).toNat : Int) := by have := h3.2; omega
  have hx4 : ((b.drop 5).take 4).length = 4 := by simp; omega
  obtain ⟨s1, s2, s3⟩ := sp4 hx4
  have hlb := num_lt4 ((b.drop 5).take 4) (by omega)
  have ht32 : F29 [.by ((b.drop 5).take 4), .int .i64 4] = some ([], .tup [.t (.int .u64 (longF b : Int)), .t (.by []), .t (.int .i64 0)]) := by
    have := number_c ((b.drop 5).take 4) 4 (by omega) (by omega)
    rw [s1, s2, s3] at this
    exact this
  have hlf : longF b = num ((b.drop 5).take 4) := rfl
  rw [← hlf] at hlb
  have c59 := cut59 b
  have l9 : 9 ≤ b.length := by omega
  have l13 : 13 ≤ b.length := by omega
  have hd13 : (b.drop 13).length = b.length - 13 := by simp
  generalize hn : longF b = n at *
  generalize (b.drop 5).take 4 = x at *
  by_cases h4 : 45000 < (n : Int)
  · rw [if_pos (by omega)] at htk
    obtain ⟨rfl, rfl⟩ := err _ (by omega) htk
    repeat refine St (And.intro hc4 <| And.intro h2 <| And.intro l4 <| And.intro @u8.eq_def <| And.intro h1a <| And.intro h1b <| And.intro c59 <| And.intro l9 <| And.intro l13 <| And.intro ht32 <| h4) ct13 ?_
    exact AWP.ret (Fin trivial [] [])
  rw [if_neg (by omega)] at htk
  have hw : IntKind.i64.wrap (n : Int) = (n : Int) := wrap_i64 (by omega) (by omega)
  have hw13 : IntKind.i64.wrap (13 + (n : Int)) = ((13 + n : Nat) : Int) := by rw [wrap_i64 (by omega) (by omega)]; omega
  have hwl : IntKind.i64.wrap ((b.length : Int) - 13) = ((b.length - 13 : Nat) : Int) := by rw [wrap_i64 (by omega) (by omega)]; omega
  have hwu : IntKind.u64.wrap ((b.length - 13 : Nat) : Int) = ((b.length - 13 : Nat) : Int) := wrap_u64 (by omega) (by omega)
  by_cases h5 : b.length - 13 < n
  · rw [if_pos h5] at htk
    obtain ⟨rfl, rfl⟩ := err _ (by omega) htk
    have h5' : ((b.length - 13 : Nat) : Int) < (n : Int) := by omega
    repeat refine St (And.intro hc4 <| And.intro h2 <| And.intro l4 <| And.intro @u8.eq_def <| And.intro h1a <| And.intro h1b <| And.intro c59 <| And.intro l9 <| And.intro l13 <| And.intro ht32 <| And.intro h4 <| And.intro hw <| And.intro hwl <| And.intro hwu <| h5') ct13 ?_
    exact AWP.ret (Fin trivial [] [])
  rw [if_neg h5] at htk
  have h5' : ¬ ((b.length - 13 : Nat) : Int) < (n : Int) := by omega
  have h13n : 13 + n ≤ b.length := by omega
  have h13le : 13 ≤ 13 + n := by omega
  have c913 := cut913 b
  have cn := cutn b n
  have cr : List.drop (13 + n) b = (b.drop 13).drop n := by rw [List.drop_drop]
  have hs : F24 [.by ((b.drop 13).take n)] = some ([], .t (.by (sumF dblL ((b.drop 13).take n)))) := if_pos (by simp; omega)
  by_cases h6 : sumF dblL ((b.drop 13).take n) = (b.drop 9).take 4
  case neg =>
    rw [if_pos h6] at htk
    obtain ⟨rfl, rfl⟩ := err _ (by omega) htk
    have h6' : (sumF dblL ((b.drop 13).take n) == (b.drop 9).take 4) = false := by simpa using h6
    have h6n : (sumF dblL ((b.drop 13).take n) != (b.drop 9).take 4) = true := by simpa using h6
    repeat refine St (And.intro hc4 <| And.intro h2 <| And.intro l4 <| And.intro @u8.eq_def <| And.intro h1a <| And.intro h1b <| And.intro c59 <| And.intro l9 <| And.intro l13 <| And.intro ht32 <| And.intro h4 <| And.intro hw <| And.intro hwl <| And.intro hwu <| And.intro h5' <| And.intro hw13 <| And.intro h13n <| And.intro h13le <| And.intro cn <| And.intro c913 <| And.intro hs <| And.intro h6' <| h6n) ct13 ?_
    exact AWP.ret (Fin trivial [] [])
  rw [if_neg (by simpa using h6)] at htk
  have h6' : (sumF dblL ((b.drop 13).take n) == (b.drop 9).take 4) = true := by simpa using h6
  have h6n : (sumF dblL ((b.drop 13).take n) != (b.drop 9).take 4) = false := by simpa using h6
  rw [htk] at hF'
  cases hF'
  repeat refine St (And.intro hc4 <| And.intro h2 <| And.intro l4 <| And.intro @u8.eq_def <| And.intro h1a <| And.intro h1b <| And.intro c59 <| And.intro l9 <| And.intro l13 <| And.intro ht32 <| And.intro h4 <| And.intro hw <| And.intro hwl <| And.intro hwu <| And.intro h5' <| And.intro hw13 <| And.intro h13n <| And.intro h13le <| And.intro cn <| And.intro c913 <| And.intro hs <| And.intro h6' <| And.intro h6n <| cr) ct13 ?_
  exact AWP.ret (Fin trivial [] [])

theorem take_fr {b : List UInt8} (h : b.length ≤ 1000000) : F13 [.by b] = some (resT (takF dblL b)) := if_pos h

noncomputable def F16 : Fun
  | [.by b] => if b.length ≤ 1000000 then some ([], .tup [.t (.sq 2 ((allF dblL b []).1.map msgT)), .t (.by (allF dblL b []).2.1), .t (.int .i64 (allF dblL b []).2.2)]) else none
  | _ => none

theorem ct16 : CT [(13, ⟨[false], treeG F13⟩)] [0, 2, 3, 4, 5, 6, 7, 8, 9, 13, 22] [] := ⟨(.cons c13.g (.nil _))⟩

set_option maxHeartbeats 1000000 in
theorem c16 : ACon Try.prog 16 F16 := by
  refine aconc E_ok (rs := [.tmp 2 36, .tmp 3 22, .tmp 4 24]) Try.func16 rfl Try.ntmps16 (by kernel_rfl) rfl (by decide) F16 (np := 1) ?_ ?_
  · intro ts h; unfold F16; split <;> first | rfl | (simp at h; done)
  intro ts H r hF hwf
  unfold F16 at hF
  split at hF <;> try (cases hF; done)
  rename_i b
  split at hF
  case isFalse => cases hF
  rename_i hc
  have hb := hc
  cases hF
  obtain ⟨R, hR⟩ : ∃ R, allF dblL b [] = R := ⟨_, rfl⟩
  rw [hR]
  repeat refine St trivial ct16 ?_
  refine AWP.loop (G := { p : List UInt8 × List (UInt8 × List UInt8) // p.1.length ≤ 1000000 ∧ p.2.length + p.1.length ≤ 1000000 ∧ allF dblL p.1 p.2 = R }) (fun p => ⟨[(0, .t (.by p.1.1)), (5, .own 0)], [.sq 2 (p.1.2.map msgT)]⟩) (fun p => p.1.1.length) ⟨(b, []), hb, by simpa using hb, hR⟩ (Wt (@List.map_nil.{0, 0}) [0, 5] [0]) ?_
  intro ⟨⟨q, acc⟩, hq, hal, hall⟩
  dsimp only at hq hal hall ⊢
  by_cases h0 : 0 < (q.length : Int)
  · have hne : q ≠ [] := by intro h; rw [h] at h0; simp at h0
    have ht := take_fr hq
    obtain ⟨hl1, hl2⟩ := takF_len dblL q
    by_cases he : (takF dblL q).e = 0
    · have hea := takF_eat dblL he
      rw [allF_go acc hne he] at hall
      generalize takF dblL q = K at *
      obtain ⟨c, p, r, e⟩ := K
      dsimp only at he hea hall hl1 hl2
      subst he
      have ht' : F13 [.by q] = some ([], .tup [.t (.int .u8 (c.toNat : Int)), .t (.by p), .t (.by r), .t (.int .i64 0)]) := by rw [ht]; rfl
      have hsn : (acc ++ [(c, p)]).map msgT = acc.map msgT ++ [.st [.int .u8 (c.toNat : Int), .by p]] := by simp [msgT]
      have hal' : (acc.map msgT).length ≤ 1000000 := by simp; omega
      repeat refine St (And.intro h0 <| And.intro ht' <| hal') ct16 ?_
      exact ⟨⟨(r, acc ++ [(c, p)]), by dsimp only; omega, by simp; omega, hall⟩, (Wt hsn [0, 5] [2]), by dsimp only; omega⟩
    · rw [allF_stop acc hne he] at hall
      generalize takF dblL q = K at *
      obtain ⟨c, p, r, e⟩ := K
      dsimp only at he hall
      have hre : resT ⟨c, p, r, e⟩ = ([], .tup [.t (.int .u8 0), .t (.by []), .t (.by []), .t (.int .i64 e)]) := if_neg he
      rw [hre] at ht
      have heb : (e != 0) = true := by simpa using he
      subst hall
      repeat refine St (And.intro h0 <| And.intro ht <| heb) ct16 ?_
      exact AWP.ret (Fin trivial [0] [])
  · obtain rfl : q = [] := List.length_eq_zero_iff.1 (by omega)
    rw [allF_nil] at hall
    subst hall
    repeat refine St trivial ct16 ?_
    exact AWP.ret (Fin trivial [0] [])

end Go.Fw

end

section
/- Chapter 32: the live question, FrameEncode, FrameAll: their code walked. -/
namespace Go.Fw
open Go Go.Proofs
set_option linter.unusedVariables false
set_option linter.unusedSimpArgs false

theorem dsum_0 : sumF dblL [] = [93, 246, 224, 226] := by decide +kernel
theorem enc_fc (c : UInt8) (p : List UInt8) : F10 [.int .u8 (c.toNat : Int), .by p] = some ([], .tup [.t (.by (encF dblL c p).1), .t (.int .i64 (encF dblL c p).2)]) := by
  simp only [F10, Int.toNat_natCast, u8_of]
theorem enc_ok {c : UInt8} {p : List UInt8} (h1 : okC c.toNat) (h2 : p.length ≤ 45000) : encF dblL c p = (frm dblL c p, 0) := by
  unfold encF; rw [if_neg (by simpa using h1), if_neg (by omega)]
theorem frm0 : frm dblL 2 [] = [229, 29, 10, 23, 2, 0, 0, 0, 0, 93, 246, 224, 226] := by
  unfold frm; rw [dsum_0]; rfl

theorem find_fc {b : List UInt8} (h : b.length ≤ 1000000) : F14 [.by b] = some ([], .t (.int .i64 (findF b b.length 1 : Nat))) := if_pos h

def F9 : Fun
  | [] => some ([], .t (.bool true))
  | _ => none

theorem ct9 : CT [(10, ⟨[false, false], treeG F10⟩), (12, ⟨[false], treeG F12⟩), (14, ⟨[false], treeG F14⟩)] [0, 1, 2, 3, 4, 5, 6, 7, 11] [] := ⟨(.cons c10.g (.cons c12.g (.cons c14.g (.nil _))))⟩

set_option maxRecDepth 10000 in
set_option maxHeartbeats 1000000 in
theorem c9 : ACon Try.prog 9 F9 := by
  refine aconc E_ok (rs := [.tmp 0 4]) Try.func9 rfl Try.ntmps9 (by kernel_rfl) rfl (by decide) F9 (np := 0) ?_ ?_
  · intro ts h; unfold F9; split <;> first | rfl | (simp at h; done)
  intro ts H r hF hwf
  unfold F9 at hF
  split at hF <;> try (cases hF; done)
  cases hF
  have h1 := enc_fc 2 []
  rw [enc_ok (by decide) (by simp), frm0] at h1
  have h2 := take_fc (b := [229, 29, 10, 23, 2, 0, 0, 0, 0, 93, 246, 224, 226] ++ [UInt8.ofNat 7]) (by simp)
  have h2b := frm_take dblL dblL_len (c := 2) (p := []) [UInt8.ofNat 7] (by decide) (by simp)
  rw [frm0] at h2b
  rw [h2b] at h2
  have h3 := take_fc (b := [UInt8.ofNat 1]) (by simp)
  have h3b : takF dblL [UInt8.ofNat 1] = ⟨0, [], [], 54⟩ := by unfold takF; rw [if_pos (by decide)]
  rw [h3b] at h3
  have h4 : F14 [.by [UInt8.ofNat 1, UInt8.ofNat 229]] = some ([], .t (.int .i64 1)) := by
    have : findF [UInt8.ofNat 1, UInt8.ofNat 229] 2 1 = 1 := by decide
    have h := find_fc (b := [UInt8.ofNat 1, UInt8.ofNat 229]) (by simp)
    rw [show ([UInt8.ofNat 1, UInt8.ofNat 229] : List UInt8).length = 2 from rfl] at h
    rw [h, this]; rfl
  have e1 : resT ⟨2, [], [UInt8.ofNat 7], 0⟩ = ([], .tup [.t (.int .u8 2), .t (.by []), .t (.by [UInt8.ofNat 7]), .t (.int .i64 0)]) := rfl
  have e2 : resT ⟨0, [], [], 54⟩ = ([], .tup [.t (.int .u8 0), .t (.by []), .t (.by []), .t (.int .i64 54)]) := rfl
  rw [e1] at h2
  rw [e2] at h3
  have hc : (((2 : UInt8).toNat : Nat) : Int) = 2 := rfl
  rw [hc] at h1
  simp only [List.cons_append, List.nil_append] at h2
  repeat refine St (And.intro h1 <| And.intro h2 <| And.intro h3 <| h4) ct9 ?_
  exact AWP.ret (Fin trivial [] [])

noncomputable def F3 : Fun
  | [.int .u8 c, .by p] => some ([], .t (.bool true))
  | _ => none

theorem ct3 : CT [(9, ⟨[], treeG F9⟩), (10, ⟨[false, false], treeG F10⟩), (11, ⟨[false, false], treeG F11⟩)] [0, 1, 4, 5, 6, 7, 8, 11] [] := ⟨(.cons c9.g (.cons c10.g (.cons c11.g (.nil _))))⟩

theorem c3 : ACon Try.prog 3 F3 := by
  refine aconc E_ok (rs := [.tmp 4 4]) Try.func3 rfl Try.ntmps3 (by kernel_rfl) rfl (by decide) F3 (np := 2) ?_ ?_
  · intro ts h; unfold F3; split <;> first | rfl | (simp at h; done)
  intro ts H r hF hwf
  unfold F3 at hF
  split at hF <;> try (cases hF; done)
  rename_i n p
  cases hF
  by_cases hn : 400 < (p.length : Int)
  · repeat refine St (And.intro hn <| @F9.eq_def) ct3 ?_
    exact AWP.ret (Fin trivial [] [])
  have h1 : F10 [.int .u8 n, .by p] = some ([], .tup [.t (.by (encF dblL (UInt8.ofNat n.toNat) p).1), .t (.int .i64 (encF dblL (UInt8.ofNat n.toNat) p).2)]) := rfl
  have h2 : F11 [.int .u8 n, .by p] = some ([], .tup [.t (.by (encF dblL (UInt8.ofNat n.toNat) p).1), .t (.int .i64 (encF dblL (UInt8.ofNat n.toNat) p).2)]) := rfl
  generalize encF dblL (UInt8.ofNat n.toNat) p = R at *
  obtain ⟨x, e⟩ := R
  dsimp only at h1 h2
  have hxx : (x == x) = true := beq_self_eq_true _
  have hee : (e == e) = true := beq_self_eq_true _
  repeat refine St (And.intro hn <| And.intro h1 <| And.intro h2 <| And.intro hxx <| And.intro hee <| @F9.eq_def) ct3 ?_
  exact AWP.ret (Fin trivial [] [])

end Go.Fw

end

section
/- Chapter 32: FrameTake, FrameAll: their code walked. -/
namespace Go.Fw
open Go Go.Proofs
set_option linter.unusedVariables false
set_option linter.unusedSimpArgs false

theorem take_fco {b : List UInt8} (h : b.length ≤ 1000000) : F12o [.by b] = some (resTo (takF dblL b)) := if_pos h

noncomputable def F4 : Fun
  | [.by b] => some ([], .t (.bool true))
  | _ => none

theorem ct4 : CT [(9, ⟨[], treeG F9⟩), (12, ⟨[false], treeG F12o⟩), (13, ⟨[false], treeG F13⟩)] [0, 2, 3, 4, 5, 6, 7, 8, 9, 10, 11, 12, 13, 16, 60] [] := ⟨(.cons c9.g (.cons c12o.g (.cons c13.g (.nil _))))⟩

set_option maxHeartbeats 1000000 in
theorem c4 : ACon Try.prog 4 F4 := by
  refine aconc E_ok (rs := [.tmp 2 4]) Try.func4 rfl Try.ntmps4 (by kernel_rfl) rfl (by decide) F4 (np := 1) ?_ ?_
  · intro ts h; unfold F4; split <;> first | rfl | (simp at h; done)
  intro ts H r hF hwf
  unfold F4 at hF
  split at hF <;> try (cases hF; done)
  rename_i b
  cases hF
  by_cases hn : 400 < (b.length : Int)
  · repeat refine St (And.intro hn <| @F9.eq_def) ct4 ?_
    exact AWP.ret (Fin trivial [] [])
  have h1 := take_fco (b := b) (by omega)
  have h2 := take_fr (b := b) (by omega)
  have hbb : (b == b) = true := beq_self_eq_true _
  have hb4 : b.length ≤ 400 := by omega
  have hpl := (takF_len dblL b).1
  generalize takF dblL b = K at *
  obtain ⟨c, p, r, e⟩ := K
  dsimp only at hpl
  by_cases he : e = 0
  · subst he
    have e1 : resTo ⟨c, p, r, 0⟩ = ([.by p, .by r], .tup [.t (.int .u8 (c.toNat : Int)), .own 0, .own 1, .t (.int .i64 0)]) := rfl
    have e2 : resT ⟨c, p, r, 0⟩ = ([], .tup [.t (.int .u8 (c.toNat : Int)), .t (.by p), .t (.by r), .t (.int .i64 0)]) := rfl
    rw [e1] at h1
    rw [e2] at h2
    have hcc : (((c.toNat : Nat) : Int) == ((c.toNat : Nat) : Int)) = true := beq_self_eq_true _
    have hpp : (p == p) = true := beq_self_eq_true _
    have hrr : (r == r) = true := beq_self_eq_true _
    repeat refine St (And.intro hn <| And.intro h1 <| And.intro h2 <| And.intro hb4 <| And.intro hcc <| And.intro hpp <| hrr) ct4 ?_
    refine AWP.loop (G := { x : Nat × List UInt8 // x.1 ≤ x.2.length ∧ x.2.length = p.length }) (fun x => ⟨[(0, .t (.by b)), (3, .own 0), (5, .own 1), (12, .t (.bool true)), (13, .t (.int .i64 (x.1.1 : Int)))], [.by b, .by x.1.2]⟩) (fun x => p.length - x.1.1) ⟨(0, p), by dsimp only; omega, rfl⟩ (Wt trivial [0, 3, 5, 12, 13] [1, 2]) ?_
    intro ⟨⟨i, q⟩, hi, hq⟩
    dsimp only at hi hq ⊢
    by_cases hl : (i : Int) < (q.length : Int)
    · have hl' : i < q.length := by omega
      repeat refine St hl' ct4 ?_
      exact ⟨⟨(i + 1, q.set i (UInt8.ofNat 61)), by simp; omega, by simp; omega⟩, (Wt trivial [0, 3, 5, 12, 13] [0, 1]), by dsimp only; omega⟩
    · repeat refine St (And.intro @F9.eq_def <| hbb) ct4 ?_
      exact AWP.ret (Fin trivial [] [])
  · have e1 : resTo ⟨c, p, r, e⟩ = ([], .tup [.t (.int .u8 0), .t (.by []), .t (.by []), .t (.int .i64 e)]) := if_neg he
    have e2 : resT ⟨c, p, r, e⟩ = ([], .tup [.t (.int .u8 0), .t (.by []), .t (.by []), .t (.int .i64 e)]) := if_neg he
    rw [e1] at h1
    rw [e2] at h2
    have hee : (e == e) = true := beq_self_eq_true _
    repeat refine St (And.intro hn <| And.intro h1 <| And.intro h2 <| And.intro hb4 <| hee) ct4 ?_
    refine AWP.loop (G := Unit) (fun x => ⟨[(0, .t (.by b)), (3, .own 0), (5, .t (.by [])), (12, .t (.bool true)), (13, .t (.int .i64 0))], [.fz (.by b)]⟩) (fun x => 0) () (Wt trivial [0, 3, 5, 12, 13] [1]) ?_
    intro x
    repeat refine St (And.intro @F9.eq_def <| hbb) ct4 ?_
    exact AWP.ret (Fin trivial [] [])

end Go.Fw

end

section
/- Chapter 32: FrameAll: its code walked. -/
namespace Go.Fw
open Go Go.Proofs
set_option linter.unusedVariables false
set_option linter.unusedSimpArgs false

theorem all_fc {b : List UInt8} (h : b.length ≤ 1000000) : F15 [.by b] = some ([], .tup [.t (.sq 2 ((allF dblL b []).1.map msgT)), .t (.by (allF dblL b []).2.1), .t (.int .i64 (allF dblL b []).2.2)]) := if_pos h
theorem all_fr {b : List UInt8} (h : b.length ≤ 1000000) : F16 [.by b] = some ([], .tup [.t (.sq 2 ((allF dblL b []).1.map msgT)), .t (.by (allF dblL b []).2.1), .t (.int .i64 (allF dblL b []).2.2)]) := if_pos h
theorem find_fr {b : List UInt8} (h : b.length ≤ 1000000) : F17 [.by b] = some ([], .t (.int .i64 (findF b b.length 1 : Nat))) := if_pos h
theorem msg_getD {l : List (UInt8 × List UInt8)} {i : Nat} (h : i < l.length) : ∃ c p, (l.map msgT).getD i default = .st [.int .u8 ((c : UInt8).toNat : Int), .by p] := ⟨l[i].1, l[i].2, by simp [h, msgT]⟩
theorem allF_len : ∀ (n : Nat) (b : List UInt8) (acc : List (UInt8 × List UInt8)), b.length ≤ n → (allF dblL b acc).1.length ≤ acc.length + b.length
  | n, b, acc, h => by
    by_cases hb : b = []
    · subst hb; rw [allF_nil]; simp
    · by_cases he : (takF dblL b).e = 0
      · rw [allF_go acc hb he]
        have h1 := takF_eat dblL he
        match n with
        | 0 => omega
        | n + 1 =>
          have := allF_len n (takF dblL b).r (acc ++ [((takF dblL b).c, (takF dblL b).p)]) (by omega)
          simp at this; omega
      · rw [allF_stop acc hb he]; simp

noncomputable def F7 : Fun
  | [.by b] => some ([], .t (.bool true))
  | _ => none

theorem ct7 : CT [(9, ⟨[], treeG F9⟩), (14, ⟨[false], treeG F14⟩), (15, ⟨[false], treeG F15⟩), (16, ⟨[false], treeG F16⟩), (17, ⟨[false], treeG F17⟩)] [0, 2, 3, 4, 5, 6, 7, 8, 9, 12, 42, 46, 74] [(10, [⟨0, [3], []⟩, ⟨0, [9], []⟩, ⟨0, [49, 50], []⟩, ⟨0, [51], []⟩, ⟨0, [52], []⟩, ⟨0, [6], []⟩, ⟨0, [9], []⟩, ⟨0, [54, 55], []⟩, ⟨0, [56], []⟩, ⟨0, [57], []⟩, ⟨0, [53, 58], []⟩, ⟨0, [59], []⟩, ⟨0, [3], []⟩, ⟨0, [9], []⟩, ⟨0, [61, 62], []⟩, ⟨0, [63], []⟩, ⟨0, [64], []⟩, ⟨1, [65], []⟩, ⟨0, [6], []⟩, ⟨0, [9], []⟩, ⟨0, [67, 68], []⟩, ⟨0, [69], []⟩, ⟨0, [70], []⟩, ⟨1, [71], []⟩, ⟨0, [66, 72], [17, 23]⟩, ⟨0, [60, 73], [17, 23]⟩])] := ⟨(.cons c9.g (.cons c14.g (.cons c15.g (.cons c16.g (.cons c17.g (.nil _))))))⟩

set_option maxRecDepth 100000 in
set_option maxHeartbeats 4000000 in
theorem c7 : ACon Try.prog 7 F7 := by
  refine aconc E_ok (rs := [.tmp 2 4]) Try.func7 rfl Try.ntmps7 (by kernel_rfl) rfl (by decide) F7 (np := 1) ?_ ?_
  · intro ts h; unfold F7; split <;> first | rfl | (simp at h; done)
  intro ts H r hF hwf
  unfold F7 at hF
  split at hF <;> try (cases hF; done)
  rename_i b
  cases hF
  by_cases hn : 400 < (b.length : Int)
  · repeat refine St (And.intro hn <| @F9.eq_def) ct7 ?_
    exact AWP.ret (Fin trivial [] [])
  have h1 := all_fc (b := b) (by omega)
  have h2 := all_fr (b := b) (by omega)
  have h3 := find_fc (b := b) (by omega)
  have h4 := find_fr (b := b) (by omega)
  have hll := allF_len b.length b [] (Nat.le_refl _)
  generalize findF b b.length 1 = n at *
  generalize allF dblL b [] = K at *
  obtain ⟨l, r, e⟩ := K
  dsimp only at h1 h2 hll
  have hl400 : l.length ≤ 400 := by simp at hll; omega
  have hnn : (((n : Nat) : Int) == ((n : Nat) : Int)) = true := beq_self_eq_true _
  have hrr : (r == r) = true := beq_self_eq_true _
  have hee : (e == e) = true := beq_self_eq_true _
  repeat refine St (And.intro hn <| And.intro h1 <| And.intro h2 <| And.intro hrr <| hee) ct7 ?_
  refine AWP.loop (G := { i : Nat // i ≤ l.length }) (fun i => ⟨[(0, .t (.by b)), (3, .t (.sq 2 (l.map msgT))), (6, .t (.sq 2 (l.map msgT))), (9, .t (.int .i64 (i.1 : Int)))], []⟩) (fun i => l.length - i.1) ⟨0, by omega⟩ (Wt trivial [0, 3, 6, 9] []) ?_
  intro ⟨i, hi⟩
  dsimp only
  by_cases hl : (i : Int) < (l.length : Int)
  · have hl' : i < l.length := by omega
    obtain ⟨c, p, hg⟩ := msg_getD hl'
    have hpp : (p == p) = true := beq_self_eq_true _
    repeat refine St (And.intro hl <| And.intro hl' <| And.intro hg <| hpp) ct7 ?_
    exact ⟨⟨i + 1, by omega⟩, (Wt trivial [0, 3, 6, 9] []), by dsimp only; omega⟩
  · repeat refine St (And.intro @F9.eq_def <| And.intro h3 <| And.intro h4 <| hnn) ct7 ?_
    exact AWP.ret (Fin trivial [] [])

end Go.Fw

end

section
/- Chapter 32: FrameLarge: its code walked. -/
namespace Go.Fw
open Go Go.Proofs
set_option linter.unusedVariables false
set_option linter.unusedSimpArgs false

def F6 : Fun
  | [.int .u8 c, .int .u8 f] => some ([], .t (.bool true))
  | _ => none

theorem ct6 : CT [(9, ⟨[], treeG F9⟩), (10, ⟨[false, false], treeG F10⟩), (12, ⟨[false], treeG F12⟩)] [0, 1, 4, 5, 6, 7, 8, 9, 11, 12, 13, 15, 20] [(10, [⟨1, [], []⟩, ⟨0, [54], [0]⟩, ⟨0, [9], [0]⟩, ⟨0, [56], [0]⟩, ⟨0, [55, 57], [0]⟩, ⟨0, [58], [0]⟩, ⟨0, [11], [0]⟩, ⟨0, [60], [0]⟩, ⟨0, [59, 61], [0]⟩, ⟨0, [62], [0]⟩, ⟨0, [15], [0]⟩, ⟨0, [64], [0]⟩, ⟨0, [63, 65], [0]⟩, ⟨0, [66], [0]⟩, ⟨0, [12], [0]⟩, ⟨0, [7], [0]⟩, ⟨0, [68, 69], [0]⟩, ⟨0, [67, 70], [0]⟩, ⟨0, [71], [0]⟩, ⟨0, [13], [0]⟩, ⟨1, [73], [0]⟩, ⟨0, [5], [0]⟩, ⟨1, [75], [0]⟩, ⟨1, [76], [0, 22]⟩, ⟨0, [74, 77], [0, 20, 22, 23]⟩, ⟨0, [72, 78], [0, 20, 22, 23]⟩, ⟨0, [79], [0, 20, 22, 23]⟩])] := ⟨(.cons c9.g (.cons c10.g (.cons c12.g (.nil _))))⟩

set_option maxHeartbeats 1000000 in
theorem c6 : ACon Try.prog 6 F6 := by
  refine aconc E_ok (rs := [.tmp 4 4]) Try.func6 rfl Try.ntmps6 (by kernel_rfl) rfl (by decide) F6 (np := 2) ?_ ?_
  · intro ts h; unfold F6; split <;> first | rfl | (simp at h; done)
  intro ts H r hF hwf
  unfold F6 at hF
  split at hF <;> try (cases hF; done)
  rename_i n f
  cases hF
  obtain ⟨c, rfl⟩ := u8_ex (hwf (.int .u8 n) (by simp))
  obtain ⟨k, hk, hok⟩ : ∃ k : UInt8, IntKind.u8.wrap (1 + IntKind.u8.wrap ((c.toNat : Int).tmod 9)) = (k.toNat : Int) ∧ okC k.toNat := by
    have hc := c.toNat_lt
    have h1 : (c.toNat : Int).tmod 9 = ((c.toNat % 9 : Nat) : Int) := by rw [Int.tmod_eq_emod_of_nonneg (by omega)]; omega
    have h2 : IntKind.u8.wrap ((c.toNat % 9 : Nat) : Int) = ((c.toNat % 9 : Nat) : Int) := wrap_u8 (by omega) (by omega)
    have h3 : IntKind.u8.wrap (1 + ((c.toNat % 9 : Nat) : Int)) = 1 + ((c.toNat % 9 : Nat) : Int) := wrap_u8 (by omega) (by omega)
    rw [h1, h2, h3]
    refine ⟨UInt8.ofNat (1 + c.toNat % 9), ?_, ?_⟩
    · simp; omega
    · unfold okC; simp; omega
  obtain ⟨K, hK⟩ : ∃ K : Int, K = 45001 := ⟨_, rfl⟩
  rw [← hK]
  have hKr : List.replicate K.toNat (0 : UInt8) = repl 45001 0 := by rw [hK]; rfl
  have hin : inKb .i64 K = true := by rw [hK]; decide
  repeat refine St (And.intro hKr <| hin) ct6 ?_
  refine AWP.loop (G := { x : Nat × List UInt8 // x.2.length = 45001 }) (fun x => ⟨[(0, .t (.int .u8 (c.toNat : Int))), (1, .t (.int .u8 f)), (5, .own 0), (6, .t (.int .i64 (x.1.1 : Int)))], [.by x.1.2]⟩) (fun x => 45001 - x.1.1) ⟨(0, repl 45001 0), repl_len _ _⟩ (Wt trivial [0, 1, 5, 6] [0]) ?_
  intro ⟨⟨i, q⟩, hq⟩
  dsimp only at hq ⊢
  by_cases hl : (i : Int) < (q.length : Int)
  · have hl' : i < q.length := by omega
    have hqu : (i : Int).tdiv 7 = ((i / 7 : Nat) : Int) := by rw [Int.tdiv_eq_ediv_of_nonneg (by omega)]; omega
    obtain ⟨m, hm⟩ : ∃ m : Nat, i / 7 = m := ⟨_, rfl⟩
    rw [hm] at hqu
    have hw : IntKind.i64.wrap (m : Int) = (m : Int) := wrap_i64 (by omega) (by omega)
    repeat refine St (And.intro hl <| And.intro hl' <| And.intro hqu <| hw) ct6 ?_
    exact ⟨⟨(i + 1, q.set i (UInt8.ofNat (IntKind.u8.wrap (f + IntKind.u8.wrap (m : Int))).toNat)), by simp; omega⟩, (Wt trivial [0, 1, 5, 6] [0]), by dsimp only; omega⟩
  have he1 := enc_fc k (q.take 45000)
  have hql : (q.take 45000).length = 45000 := by simp; omega
  rw [enc_ok hok (by omega)] at he1
  have he2 := enc_fc k q
  have e2 : encF dblL k q = ([], 4) := by unfold encF; rw [if_neg (by simpa using hok), if_pos (by omega)]
  rw [e2] at he2
  have hfl := frm_len dblL dblL_len k (q.take 45000) (by omega)
  have ht1 := take_fc (b := frm dblL k (q.take 45000)) (by omega)
  have ht2 := frm_take dblL dblL_len (c := k) (p := q.take 45000) [] hok (by omega)
  rw [List.append_nil] at ht2
  rw [ht2] at ht1
  have ht1' : F12 [.by (frm dblL k (q.take 45000))] = some ([], .tup [.t (.int .u8 (k.toNat : Int)), .t (.by (q.take 45000)), .t (.by []), .t (.int .i64 0)]) := ht1
  dsimp only at he1 he2
  generalize frm dblL k (q.take 45000) = fr at *
  have h45 : 45000 ≤ q.length := by omega
  have hxx : (q.take 45000 == q.take 45000) = true := beq_self_eq_true _
  have hkk : (((k.toNat : Nat) : Int) == ((k.toNat : Nat) : Int)) = true := beq_self_eq_true _
  obtain ⟨p, hp⟩ : ∃ p, q.take 45000 = p := ⟨_, rfl⟩
  rw [hp] at he1 ht1' hql hxx
  repeat refine St (And.intro hl <| And.intro hk <| And.intro hp <| And.intro he1 <| And.intro he2 <| And.intro ht1' <| And.intro h45 <| And.intro hql <| And.intro hxx <| And.intro hkk <| @F9.eq_def) ct6 ?_
  exact AWP.ret (Fin trivial [] [])

end Go.Fw

end
