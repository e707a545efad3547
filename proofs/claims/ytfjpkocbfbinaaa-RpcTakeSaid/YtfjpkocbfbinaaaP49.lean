/- The abstract machine, and the contracts of the code: part 49. -/
import Derived.Test.YtfjpkocbfbinaaaP48
set_option linter.unusedVariables false
set_option linter.unusedSimpArgs false

section
namespace Go.Fw
open Go
def isL (a : TA) : List Bool := [!decide (a.name = zH), !decide (a.hgt = 0), !decide (a.work = zW), !decide (a.val = 0), a.fst, !decide (a.bts = []), !decide (a.ents = []), !decide (a.nums = zN), !decide (a.nams = [])]
def hasL : Nat → List Bool
 | 1 => [true, true, true, false, false, false, false, false, false]
 | 2 => [false, false, false, false, false, true, false, false, false]
 | 3 => [false, true, false, true, true, true, false, false, false]
 | 4 => [false, false, false, true, false, true, false, false, false]
 | 5 => [false, false, false, false, false, false, true, false, false]
 | 6 => [false, false, false, false, false, false, false, true, false]
 | 7 => [true, false, false, false, false, false, false, false, false]
 | 8 => [false, false, false, false, false, false, false, false, true]
 | _ => [false, false, false, false, false, false, false, false, false]
def inL (a : TA) : List Bool := if a.e = 0 then hasL (kA a.op) else hasL 0
def allowL : List Bool → List Bool → Bool
 | x :: l, y :: m => (!x || y) && allowL l m
 | _, _ => true
theorem isL_len (a : TA) : (isL a).length = 9 := rfl
theorem hasL_len (k : Nat) : (hasL k).length = 9 := by unfold hasL; split <;> rfl
theorem inL_len (a : TA) : (inL a).length = 9 := by unfold inL; split <;> exact hasL_len _
theorem allowL_no : ∀ (l m : List Bool) (i : Nat), i < l.length → i < m.length → l.getD i false = true → m.getD i false = false → allowL l m = false
 | x :: l, y :: m, 0, _, _, h1, h2 => by
   simp only [List.getD_cons_zero] at h1 h2
   subst h1; subst h2; rfl
 | x :: l, y :: m, i + 1, hl, hm, h1, h2 => by
   have := allowL_no l m i (by simpa using hl) (by simpa using hm) (by simpa using h1) (by simpa using h2)
   simp only [allowL, this, Bool.and_false]
theorem allowL_yes : ∀ (l m : List Bool), l.length = m.length → (∀ i, i < l.length → l.getD i false = true → m.getD i false = true) → allowL l m = true
 | [], _, _, _ => rfl
 | x :: l, [], h, _ => by cases h
 | x :: l, y :: m, h, hi => by
   have h0 := hi 0 (by simp)
   have := allowL_yes l m (by simpa using h) fun i hl hx => by
     have := hi (i + 1) (by simpa using hl) (by simpa using hx)
     simpa using this
   simp only [allowL, this, Bool.and_true]
   cases x
   · rfl
   · simpa using h0
theorem strip_iff (a : TA) : ∀ k, k ≤ 8 → (allowL (isL a) (hasL k) = true ↔ stripAK k a = a) := by
 obtain ⟨op, e, name, hgt, work, val, fst, bts, ents, nums, nams⟩ := a
 refine k8_all ?_ ?_ ?_ ?_ ?_ ?_ ?_ ?_ ?_ <;>
 · simp only [isL, hasL, allowL, stripAK, bareA, TA.mk.injEq, Bool.not_not, Bool.or_true, Bool.or_false, Bool.true_and, Bool.and_true, Bool.and_eq_true, decide_eq_true_eq, true_and, and_true, Bool.not_eq_true', eq_comm (a := zH), eq_comm (a := zW), eq_comm (a := zN), eq_comm (a := (0 : UInt32)), eq_comm (a := (0 : UInt64)), eq_comm (a := false), eq_comm (a := ([] : List UInt8)), eq_comm (a := ([] : List TE)), eq_comm (a := ([] : List H32))]
theorem fit_strip (a : TA) : allowL (isL a) (inL a) = decide (stripA a = a) := by
 rw [Bool.eq_iff_iff, decide_eq_true_eq]
 unfold inL stripA
 split
 · exact strip_iff a (kA a.op) (kA_le _)
 · exact strip_iff a 0 (Nat.zero_le _)
theorem mayA_eq (a : TA) : mayA a = (isOp a.op && (decide (0 ≤ a.e) && decide (a.e ≤ 99)) && decide (a.bts.length ≤ 40000) && decide (a.ents.length ≤ 200) && decide (a.nams.length ≤ 100) && allowL (isL a) (inL a) && a.ents.all okEb) := by
 rw [fit_strip, Bool.eq_iff_iff]
 simp only [Bool.and_eq_true, decide_eq_true_eq, List.all_eq_true, okEb_iff]
 constructor
 · intro h
   obtain ⟨h1, h2, h3, h4, h5, h6, h7⟩ := mayA_ok h
   exact ⟨⟨⟨⟨⟨⟨h1, h2⟩, h4⟩, h5⟩, h6⟩, h3⟩, h7⟩
 · rintro ⟨⟨⟨⟨⟨⟨h1, h2⟩, h4⟩, h5⟩, h6⟩, h3⟩, h7⟩
   exact mayA_of ⟨h1, h2, h3, h4, h5, h6, h7⟩
end Go.Fw

end

section
namespace Go.Fw
open Go Go.Proofs
theorem zar9 : zar 9 (T.bool false) = [.bool false, .bool false, .bool false, .bool false, .bool false, .bool false, .bool false, .bool false, .bool false] := by unfold zar; rfl
def hasT (k : Nat) : T := .ar 9 1 ((hasL k).map .bool)
def F62 : Fun
 | [.int .u8 n] => if 0 ≤ n ∧ n < 256 then some ([], .t (hasT (kA (UInt8.ofNat n.toNat)))) else none
 | _ => none
theorem ct62 : CT [] [0, 2, 3, 4, 7, 12, 15, 18, 21, 24, 27] [] := ⟨GClOk.nil _⟩
set_option maxHeartbeats 2000000 in
theorem c62 : ACon Try.prog 62 F62 := by
 refine aconc E_ok (rs := [.cell 2 131]) Try.func62 rfl Try.ntmps62 (by kernel_rfl) rfl (by decide) F62 (np := 1) ?_ ?_
 · intro ts h; unfold F62; split <;> first | rfl | (simp at h; done)
 intro ts H r hF hwf
 unfold F62 at hF
 split at hF <;> try (cases hF; done)
 rename_i z
 split at hF
 case isFalse => cases hF
 rename_i hc
 cases hF
 obtain ⟨c, rfl⟩ : ∃ c : UInt8, z = (c.toNat : Int) := ⟨UInt8.ofNat z.toNat, by rw [UInt8.toNat_ofNat']; omega⟩
 have hcc : UInt8.ofNat ((c.toNat : Int)).toNat = c := by rw [Int.toNat_natCast]; exact UInt8.ofNat_toNat ..
 rw [hcc]
 rcases kA_of c with ⟨a1, hk⟩ | ⟨a1, a2, hk⟩ | ⟨a1, a2, a5, hk⟩ | ⟨a1, a2, a5, a9, hk⟩ | ⟨a1, a2, a5, a9, a3, hk⟩ | ⟨a1, a2, a5, a9, a3, a4, hk⟩ | ⟨a1, a2, a5, a9, a3, a4, a6, hk⟩ | ⟨a1, a2, a5, a9, a3, a4, a6, a7, hk⟩ | ⟨a1, a2, a5, a9, a3, a4, a6, a7, a8, hk⟩ | ⟨a1, a2, a5, a9, a3, a4, a6, a7, a8, a10, hk⟩ | ⟨a1, a2, a5, a9, a3, a4, a6, a7, a8, a10, hk⟩
 · rw [hk, show hasT 1 = .ar 9 1 [.bool true, .bool true, .bool true, .bool false, .bool false, .bool false, .bool false, .bool false, .bool false] from rfl]
   have d1 : ((c.toNat : Int) == 1) = true := c8_eq 1 a1
   repeat refine St (And.intro d1 <| @zar9) ct62 ?_
   exact AWP.ret (Fin trivial [] [])
 · rw [hk, show hasT 2 = .ar 9 1 [.bool false, .bool false, .bool false, .bool false, .bool false, .bool true, .bool false, .bool false, .bool false] from rfl]
   have d1 : ((c.toNat : Int) == 1) = false := c8_ne 1 a1
   have d2 : ((c.toNat : Int) == 2) = true := c8_eq 2 a2
   repeat refine St (And.intro d1 <| And.intro d2 <| @zar9) ct62 ?_
   exact AWP.ret (Fin trivial [] [])
 · rw [hk, show hasT 2 = .ar 9 1 [.bool false, .bool false, .bool false, .bool false, .bool false, .bool true, .bool false, .bool false, .bool false] from rfl]
   have d1 : ((c.toNat : Int) == 1) = false := c8_ne 1 a1
   have d2 : ((c.toNat : Int) == 2) = false := c8_ne 2 a2
   have d5 : ((c.toNat : Int) == 5) = true := c8_eq 5 a5
   repeat refine St (And.intro d1 <| And.intro d2 <| And.intro d5 <| @zar9) ct62 ?_
   exact AWP.ret (Fin trivial [] [])
 · rw [hk, show hasT 2 = .ar 9 1 [.bool false, .bool false, .bool false, .bool false, .bool false, .bool true, .bool false, .bool false, .bool false] from rfl]
   have d1 : ((c.toNat : Int) == 1) = false := c8_ne 1 a1
   have d2 : ((c.toNat : Int) == 2) = false := c8_ne 2 a2
   have d5 : ((c.toNat : Int) == 5) = false := c8_ne 5 a5
   have d9 : ((c.toNat : Int) == 9) = true := c8_eq 9 a9
   repeat refine St (And.intro d1 <| And.intro d2 <| And.intro d5 <| And.intro d9 <| @zar9) ct62 ?_
   exact AWP.ret (Fin trivial [] [])
 · rw [hk, show hasT 3 = .ar 9 1 [.bool false, .bool true, .bool false, .bool true, .bool true, .bool true, .bool false, .bool false, .bool false] from rfl]
   have d1 : ((c.toNat : Int) == 1) = false := c8_ne 1 a1
   have d2 : ((c.toNat : Int) == 2) = false := c8_ne 2 a2
   have d5 : ((c.toNat : Int) == 5) = false := c8_ne 5 a5
   have d9 : ((c.toNat : Int) == 9) = false := c8_ne 9 a9
   have d3 : ((c.toNat : Int) == 3) = true := c8_eq 3 a3
   repeat refine St (And.intro d1 <| And.intro d2 <| And.intro d5 <| And.intro d9 <| And.intro d3 <| @zar9) ct62 ?_
   exact AWP.ret (Fin trivial [] [])
 · rw [hk, show hasT 4 = .ar 9 1 [.bool false, .bool false, .bool false, .bool true, .bool false, .bool true, .bool false, .bool false, .bool false] from rfl]
   have d1 : ((c.toNat : Int) == 1) = false := c8_ne 1 a1
   have d2 : ((c.toNat : Int) == 2) = false := c8_ne 2 a2
   have d5 : ((c.toNat : Int) == 5) = false := c8_ne 5 a5
   have d9 : ((c.toNat : Int) == 9) = false := c8_ne 9 a9
   have d3 : ((c.toNat : Int) == 3) = false := c8_ne 3 a3
   have d4 : ((c.toNat : Int) == 4) = true := c8_eq 4 a4
   repeat refine St (And.intro d1 <| And.intro d2 <| And.intro d5 <| And.intro d9 <| And.intro d3 <| And.intro d4 <| @zar9) ct62 ?_
   exact AWP.ret (Fin trivial [] [])
 · rw [hk, show hasT 5 = .ar 9 1 [.bool false, .bool false, .bool false, .bool false, .bool false, .bool false, .bool true, .bool false, .bool false] from rfl]
   have d1 : ((c.toNat : Int) == 1) = false := c8_ne 1 a1
   have d2 : ((c.toNat : Int) == 2) = false := c8_ne 2 a2
   have d5 : ((c.toNat : Int) == 5) = false := c8_ne 5 a5
   have d9 : ((c.toNat : Int) == 9) = false := c8_ne 9 a9
   have d3 : ((c.toNat : Int) == 3) = false := c8_ne 3 a3
   have d4 : ((c.toNat : Int) == 4) = false := c8_ne 4 a4
   have d6 : ((c.toNat : Int) == 6) = true := c8_eq 6 a6
   repeat refine St (And.intro d1 <| And.intro d2 <| And.intro d5 <| And.intro d9 <| And.intro d3 <| And.intro d4 <| And.intro d6 <| @zar9) ct62 ?_
   exact AWP.ret (Fin trivial [] [])
 · rw [hk, show hasT 6 = .ar 9 1 [.bool false, .bool false, .bool false, .bool false, .bool false, .bool false, .bool false, .bool true, .bool false] from rfl]
   have d1 : ((c.toNat : Int) == 1) = false := c8_ne 1 a1
   have d2 : ((c.toNat : Int) == 2) = false := c8_ne 2 a2
   have d5 : ((c.toNat : Int) == 5) = false := c8_ne 5 a5
   have d9 : ((c.toNat : Int) == 9) = false := c8_ne 9 a9
   have d3 : ((c.toNat : Int) == 3) = false := c8_ne 3 a3
   have d4 : ((c.toNat : Int) == 4) = false := c8_ne 4 a4
   have d6 : ((c.toNat : Int) == 6) = false := c8_ne 6 a6
   have d7 : ((c.toNat : Int) == 7) = true := c8_eq 7 a7
   repeat refine St (And.intro d1 <| And.intro d2 <| And.intro d5 <| And.intro d9 <| And.intro d3 <| And.intro d4 <| And.intro d6 <| And.intro d7 <| @zar9) ct62 ?_
   exact AWP.ret (Fin trivial [] [])
 · rw [hk, show hasT 7 = .ar 9 1 [.bool true, .bool false, .bool false, .bool false, .bool false, .bool false, .bool false, .bool false, .bool false] from rfl]
   have d1 : ((c.toNat : Int) == 1) = false := c8_ne 1 a1
   have d2 : ((c.toNat : Int) == 2) = false := c8_ne 2 a2
   have d5 : ((c.toNat : Int) == 5) = false := c8_ne 5 a5
   have d9 : ((c.toNat : Int) == 9) = false := c8_ne 9 a9
   have d3 : ((c.toNat : Int) == 3) = false := c8_ne 3 a3
   have d4 : ((c.toNat : Int) == 4) = false := c8_ne 4 a4
   have d6 : ((c.toNat : Int) == 6) = false := c8_ne 6 a6
   have d7 : ((c.toNat : Int) == 7) = false := c8_ne 7 a7
   have d8 : ((c.toNat : Int) == 8) = true := c8_eq 8 a8
   repeat refine St (And.intro d1 <| And.intro d2 <| And.intro d5 <| And.intro d9 <| And.intro d3 <| And.intro d4 <| And.intro d6 <| And.intro d7 <| And.intro d8 <| @zar9) ct62 ?_
   exact AWP.ret (Fin trivial [] [])
 · rw [hk, show hasT 8 = .ar 9 1 [.bool false, .bool false, .bool false, .bool false, .bool false, .bool false, .bool false, .bool false, .bool true] from rfl]
   have d1 : ((c.toNat : Int) == 1) = false := c8_ne 1 a1
   have d2 : ((c.toNat : Int) == 2) = false := c8_ne 2 a2
   have d5 : ((c.toNat : Int) == 5) = false := c8_ne 5 a5
   have d9 : ((c.toNat : Int) == 9) = false := c8_ne 9 a9
   have d3 : ((c.toNat : Int) == 3) = false := c8_ne 3 a3
   have d4 : ((c.toNat : Int) == 4) = false := c8_ne 4 a4
   have d6 : ((c.toNat : Int) == 6) = false := c8_ne 6 a6
   have d7 : ((c.toNat : Int) == 7) = false := c8_ne 7 a7
   have d8 : ((c.toNat : Int) == 8) = false := c8_ne 8 a8
   have d10 : ((c.toNat : Int) == 10) = true := c8_eq 10 a10
   repeat refine St (And.intro d1 <| And.intro d2 <| And.intro d5 <| And.intro d9 <| And.intro d3 <| And.intro d4 <| And.intro d6 <| And.intro d7 <| And.intro d8 <| And.intro d10 <| @zar9) ct62 ?_
   exact AWP.ret (Fin trivial [] [])
 · rw [hk, show hasT 0 = .ar 9 1 [.bool false, .bool false, .bool false, .bool false, .bool false, .bool false, .bool false, .bool false, .bool false] from rfl]
   have d1 : ((c.toNat : Int) == 1) = false := c8_ne 1 a1
   have d2 : ((c.toNat : Int) == 2) = false := c8_ne 2 a2
   have d5 : ((c.toNat : Int) == 5) = false := c8_ne 5 a5
   have d9 : ((c.toNat : Int) == 9) = false := c8_ne 9 a9
   have d3 : ((c.toNat : Int) == 3) = false := c8_ne 3 a3
   have d4 : ((c.toNat : Int) == 4) = false := c8_ne 4 a4
   have d6 : ((c.toNat : Int) == 6) = false := c8_ne 6 a6
   have d7 : ((c.toNat : Int) == 7) = false := c8_ne 7 a7
   have d8 : ((c.toNat : Int) == 8) = false := c8_ne 8 a8
   have d10 : ((c.toNat : Int) == 10) = false := c8_ne 10 a10
   repeat refine St (And.intro d1 <| And.intro d2 <| And.intro d5 <| And.intro d9 <| And.intro d3 <| And.intro d4 <| And.intro d6 <| And.intro d7 <| And.intro d8 <| And.intro d10 <| @zar9) ct62 ?_
   exact AWP.ret (Fin trivial [] [])
theorem has_c (c : UInt8) : F62 [.int .u8 (c.toNat : Int)] = some ([], .t (hasT (kA c))) := by
 have h0 := c.toNat_lt
 have hcc : UInt8.ofNat ((c.toNat : Int)).toNat = c := by rw [Int.toNat_natCast]; exact UInt8.ofNat_toNat ..
 simp only [F62]
 rw [if_pos ⟨by omega, by omega⟩, hcc]
def F64 : Fun
 | [.bool v] => some ([], .t (.int .u8 (if v then 1 else 0)))
 | _ => none
theorem ct64 : CT [] [0, 2, 3] [] := ⟨GClOk.nil _⟩
theorem c64 : ACon Try.prog 64 F64 := by
 refine aconc E_ok (rs := [.tmp 2 5]) Try.func64 rfl Try.ntmps64 (by kernel_rfl) rfl (by decide) F64 (np := 1) ?_ ?_
 · intro ts h; unfold F64; split <;> first | rfl | (simp at h; done)
 intro ts H r hF hwf
 unfold F64 at hF
 split at hF <;> try (cases hF; done)
 rename_i v
 cases hF
 cases v with
 | false =>
   repeat refine St trivial ct64 ?_
   exact AWP.ret (Fin trivial [] [])
 | true =>
   repeat refine St trivial ct64 ?_
   exact AWP.ret (Fin trivial [] [])
end Go.Fw

end

section
namespace Go.Fw
open Go Go.Proofs
noncomputable def G65 : GFun
 | [.by l], [.own 0, .t y] => match inv eT y with
   | some e => @ite _ ((okE e ∧ l.length ≤ 100000000)) (Classical.propDecidable _) ((some ([.no, .by (l ++ entB e)], .own 1))) none
   | none => none
 | _, _ => none
theorem ct65 : CT [(28, ⟨[false, false, false], treeG F28⟩)] [0, 1, 3, 4] [] := ⟨(.cons c28.g (.nil _))⟩
set_option maxHeartbeats 2000000 in
theorem g65 : GCon Try.prog 65 G65 := by
 refine gconc E_ok (rs := [.tmp 4 24]) Try.func65 rfl Try.ntmps65 (by kernel_rfl) rfl (by decide) G65 (np := 2) ?_ ?_
 · intro HB xs h; unfold G65; split <;> first | rfl | (simp at h; done)
 intro HB xs H r hG hwf hex
 unfold G65 at hG
 split at hG <;> try (cases hG; done)
 rename_i l y
 split at hG <;> try (cases hG; done)
 rename_i e he
 split at hG
 case isFalse => cases hG
 rename_i hc
 cases hG
 obtain rfl := inv_inv he
 obtain ⟨⟨⟨h1, h2⟩, h3, h4⟩, hl⟩ := hc
 have hn1 := e.tx.2
 have hn2 := e.tpl.2
 have ht1 : e.tx.1.take 32 = e.tx.1 := List.take_of_length_le (by omega)
 have ht2 : e.tpl.1.take 32 = e.tpl.1 := List.take_of_length_le (by omega)
 have w1 : IntKind.u64.wrap e.plan = e.plan := wrap_u64 h1 (by omega)
 have w2 : IntKind.u64.wrap e.state = e.state := wrap_u64 h3 (by omega)
 have i1 : i4 e.plan = le 4 e.plan := by unfold i4; rw [wrap_u32 h1 (by omega)]
 have i2 : i4 e.state = le 4 e.state := by unfold i4; rw [wrap_u32 h3 (by omega)]
 have hi := e.idx.toNat_lt
 have hh := e.hgt.toNat_lt
 have u1 : IntKind.u64.wrap (e.idx.toNat : Int) = (e.idx.toNat : Int) := wrap_u64 (by omega) (by omega)
 have u2 : IntKind.u64.wrap (e.hgt.toNat : Int) = (e.hgt.toNat : Int) := wrap_u64 (by omega) (by omega)
 have p1 := put_c (b := l ++ e.tx.1) (e.idx.toNat : Int) 4 (by rw [List.length_append]; omega) (by omega) (by omega)
 have p2 := put_c (b := l ++ e.tx.1 ++ le 4 (e.idx.toNat : Int)) (e.val.toNat : Int) 8 (by simp [le_len]; omega) (by omega) (by omega)
 have p3 := put_c (b := l ++ e.tx.1 ++ le 4 (e.idx.toNat : Int) ++ le 8 (e.val.toNat : Int)) e.plan 4 (by simp [le_len]; omega) (by omega) (by omega)
 have p4 := put_c (b := l ++ e.tx.1 ++ le 4 (e.idx.toNat : Int) ++ le 8 (e.val.toNat : Int) ++ le 4 e.plan) e.state 4 (by simp [le_len]; omega) (by omega) (by omega)
 have p5 := put_c (b := l ++ e.tx.1 ++ le 4 (e.idx.toNat : Int) ++ le 8 (e.val.toNat : Int) ++ le 4 e.plan ++ le 4 e.state) (e.hgt.toNat : Int) 4 (by simp [le_len]; omega) (by omega) (by omega)
 have q4 : (4 : Int).toNat = 4 := rfl
 have q8 : (8 : Int).toNat = 8 := rfl
 rw [q4] at p1 p3 p4 p5
 rw [q8] at p2
 have hent : l ++ entB e = l ++ e.tx.1 ++ le 4 (e.idx.toNat : Int) ++ le 8 (e.val.toNat : Int) ++ le 4 e.plan ++ le 4 e.state ++ le 4 (e.hgt.toNat : Int) ++ e.tpl.1 := by
   unfold entB; rw [i1, i2]; simp only [List.append_assoc]
 rw [hent, eT_st]
 repeat refine St (And.intro (And.intro @gentry.eq_1 <| @gentry.eq_2) <| And.intro hn1 <| And.intro hn2 <| And.intro ht1 <| And.intro ht2 <| And.intro w1 <| And.intro w2 <| And.intro u1 <| And.intro u2 <| And.intro p1 <| And.intro p2 <| And.intro p3 <| And.intro p4 <| And.intro p5 <| And.intro hl <| @le_len) ct65 ?_
 exact AWP.ret (Fin trivial [] [0, 8])
end Go.Fw

end

section
namespace Go.Fw
open Go Go.Proofs
noncomputable def F37 : Fun
 | [y] => match inv aT y with
   | some a => if a.ents.length ≤ 1000000 then some ([], .t (.bool (mayA a))) else none
   | none => none
 | _ => none
theorem ct37 : CT [(62, ⟨[false], treeG F62⟩)] [0, 1, 2, 3, 4, 5, 6, 7, 43, 49, 85, 96, 101, 126] [(6, (List.cons (⟨0, [1], [], []⟩ : Info) <| List.cons (⟨1, [51], [], []⟩ : Info) <| List.cons (⟨1, [], [], []⟩ : Info) <| List.cons (⟨0, [52, 53], [1, 2], []⟩ : Info) <| List.cons (⟨0, [1], [], []⟩ : Info) <| List.cons (⟨1, [55], [], []⟩ : Info) <| List.cons (⟨0, [56], [5], []⟩ : Info) <| List.cons (⟨0, [1], [], []⟩ : Info) <| List.cons (⟨1, [58], [], []⟩ : Info) <| List.cons (⟨1, [], [], []⟩ : Info) <| List.cons (⟨0, [59, 60], [8, 9], []⟩ : Info) <| List.cons (⟨0, [1], [], []⟩ : Info) <| List.cons (⟨1, [62], [], []⟩ : Info) <| List.cons (⟨0, [63], [12], []⟩ : Info) <| List.cons (⟨0, [1], [], []⟩ : Info) <| List.cons (⟨1, [65], [], []⟩ : Info) <| List.cons (⟨0, [1], [], []⟩ : Info) <| List.cons (⟨1, [67], [], []⟩ : Info) <| List.cons (⟨1, [68], [17], []⟩ : Info) <| List.cons (⟨0, [69], [17, 18], []⟩ : Info) <| List.cons (⟨0, [1], [], []⟩ : Info) <| List.cons (⟨1, [71], [], []⟩ : Info) <| List.cons (⟨1, [72], [21], []⟩ : Info) <| List.cons (⟨0, [73], [21, 22], []⟩ : Info) <| List.cons (⟨0, [1], [], []⟩ : Info) <| List.cons (⟨1, [75], [], []⟩ : Info) <| List.cons (⟨1, [], [], []⟩ : Info) <| List.cons (⟨0, [76, 77], [25, 26], []⟩ : Info) <| List.cons (⟨0, [1], [], []⟩ : Info) <| List.cons (⟨1, [79], [], []⟩ : Info) <| List.cons (⟨1, [80], [29], []⟩ : Info) <| List.cons (⟨0, [81], [29, 30], []⟩ : Info) <| List.cons (⟨1, [54, 57, 61, 64, 66, 70, 74, 78, 82], [1, 2, 5, 8, 9, 12, 15, 17, 18, 21, 22, 25, 26, 29, 30], []⟩ : Info) <| List.cons (⟨1, [], [], []⟩ : Info) <| List.cons (⟨2, [4, 83], [1, 2, 5, 8, 9, 12, 15, 17, 18, 21, 22, 25, 26, 29, 30, 32, 33], []⟩ : Info) <| []))] := ⟨(.cons c62.g (.nil _))⟩
theorem bt_map (l : List Bool) (i : Nat) (h : i < l.length) : (l.map T.bool).getD i default = .bool (l.getD i false) := by simp [h]
set_option maxRecDepth 20000 in
set_option maxHeartbeats 8000000 in
theorem c37 : ACon Try.prog 37 F37 := by
 refine aconc E_ok (rs := [.tmp 2 4]) Try.func37 rfl Try.ntmps37 (by kernel_rfl) rfl (by decide) F37 (np := 1) ?_ ?_
 · intro ts h; unfold F37; split <;> first | rfl | (simp at h; done)
 intro ts H r hF hwf
 unfold F37 at hF
 split at hF <;> try (cases hF; done)
 split at hF <;> try (cases hF; done)
 rename_i a ha
 split at hF
 case isFalse => cases hF
 rename_i hlim
 cases hF
 obtain rfl := inv_inv ha
 have hmay := mayA_eq a
 have hil := inL_len a
 have hin := show inL a = if a.e = 0 then hasL (kA a.op) else hasL 0 from rfl
 have his := show isL a = _ from rfl
 generalize inL a = M at *
 generalize hIs : isL a = L at *
 have hll : L.length = 9 := by rw [← hIs]; rfl
 generalize mayA a = R at *
 obtain ⟨c, e, n, g, w, v, f, x, E, u, N⟩ := a
 rw [aT_st]
 dsimp only at hmay hin his hlim ⊢
 have hn := n.2
 obtain ⟨u0, u1, u2, u3, u4, hu⟩ := n5_ex u
 subst hu
 simp only [wT, List.map_cons, List.map_nil, nT]
 have mE : (E.map eT).length = E.length := List.length_map ..
 have mN : (N.map hT).length = N.length := List.length_map ..
 have hop : isOp c = (decide (1 ≤ c.toNat) && decide (c.toNat ≤ 10)) := rfl
 rw [hop] at hmay
 by_cases k0 : (c.toNat : Int) < 1
 · rw [decide_eq_false (show ¬ 1 ≤ c.toNat by omega)] at hmay
   simp only [Bool.and_false, Bool.false_and] at hmay
   rw [hmay]
   repeat refine St (And.intro @lapp1 <| And.intro @lapp2 <| And.intro hn <| And.intro mE <| And.intro mN <| k0) ct37 ?_
   exact AWP.ret (Fin trivial [] [])
 rw [decide_eq_true (show 1 ≤ c.toNat by omega)] at hmay
 by_cases k1 : 10 < (c.toNat : Int)
 · rw [decide_eq_false (show ¬ c.toNat ≤ 10 by omega)] at hmay
   simp only [Bool.and_false, Bool.false_and] at hmay
   rw [hmay]
   repeat refine St (And.intro @lapp1 <| And.intro @lapp2 <| And.intro hn <| And.intro mE <| And.intro mN <| And.intro k0 <| k1) ct37 ?_
   exact AWP.ret (Fin trivial [] [])
 rw [decide_eq_true (show c.toNat ≤ 10 by omega)] at hmay
 by_cases k2 : e < 0
 · rw [decide_eq_false (show ¬ 0 ≤ e by omega)] at hmay
   simp only [Bool.and_false, Bool.false_and] at hmay
   rw [hmay]
   repeat refine St (And.intro @lapp1 <| And.intro @lapp2 <| And.intro hn <| And.intro mE <| And.intro mN <| And.intro k0 <| And.intro k1 <| k2) ct37 ?_
   exact AWP.ret (Fin trivial [] [])
 rw [decide_eq_true (show 0 ≤ e by omega)] at hmay
 by_cases k3 : 99 < e
 · rw [decide_eq_false (show ¬ e ≤ 99 by omega)] at hmay
   simp only [Bool.and_false, Bool.false_and] at hmay
   rw [hmay]
   repeat refine St (And.intro @lapp1 <| And.intro @lapp2 <| And.intro hn <| And.intro mE <| And.intro mN <| And.intro k0 <| And.intro k1 <| And.intro k2 <| k3) ct37 ?_
   exact AWP.ret (Fin trivial [] [])
 rw [decide_eq_true (show e ≤ 99 by omega)] at hmay
 by_cases k4 : (40000 : Int) < (x.length : Int)
 · rw [decide_eq_false (show ¬ x.length ≤ 40000 by omega)] at hmay
   simp only [Bool.and_false, Bool.false_and] at hmay
   rw [hmay]
   repeat refine St (And.intro @lapp1 <| And.intro @lapp2 <| And.intro hn <| And.intro mE <| And.intro mN <| And.intro k0 <| And.intro k1 <| And.intro k2 <| And.intro k3 <| k4) ct37 ?_
   exact AWP.ret (Fin trivial [] [])
 rw [decide_eq_true (show x.length ≤ 40000 by omega)] at hmay
 by_cases k5 : (200 : Int) < (E.length : Int)
 · rw [decide_eq_false (show ¬ E.length ≤ 200 by omega)] at hmay
   simp only [Bool.and_false, Bool.false_and] at hmay
   rw [hmay]
   repeat refine St (And.intro @lapp1 <| And.intro @lapp2 <| And.intro hn <| And.intro mE <| And.intro mN <| And.intro k0 <| And.intro k1 <| And.intro k2 <| And.intro k3 <| And.intro k4 <| k5) ct37 ?_
   exact AWP.ret (Fin trivial [] [])
 rw [decide_eq_true (show E.length ≤ 200 by omega)] at hmay
 by_cases k6 : (100 : Int) < (N.length : Int)
 · rw [decide_eq_false (show ¬ N.length ≤ 100 by omega)] at hmay
   simp only [Bool.and_false, Bool.false_and] at hmay
   rw [hmay]
   repeat refine St (And.intro @lapp1 <| And.intro @lapp2 <| And.intro hn <| And.intro mE <| And.intro mN <| And.intro k0 <| And.intro k1 <| And.intro k2 <| And.intro k3 <| And.intro k4 <| And.intro k5 <| k6) ct37 ?_
   exact AWP.ret (Fin trivial [] [])
 rw [decide_eq_true (show N.length ≤ 100 by omega)] at hmay
 simp only [Bool.and_true, Bool.true_and] at hmay
 have hh := has_c c
 have f1 : (n.1 == zby 32) = decide (n = zH) := h32_beq n zH
 have f2 : ((g.toNat : Int) != 0) = !decide (g = 0) := by unfold bne; rw [show (0 : Int) = ((0 : UInt32).toNat : Int) from rfl, n32_beq]
 have f3 : (((w.a.toNat : Int) == 0) && (((w.b.toNat : Int) == 0) && (((w.c.toNat : Int) == 0) && ((w.d.toNat : Int) == 0)))) = decide (w = zW) := w4_beq w zW
 have f4 : ((v.toNat : Int) != 0) = !decide (v = 0) := by unfold bne; rw [show (0 : Int) = ((0 : UInt64).toNat : Int) from rfl, n64_beq]
 have f5 : ∀ {α : Type} (l : List α) (h : Decidable (l = [])), decide ((0 : Int) < (l.length : Int)) = !@decide (l = []) h := by
   intro α l h
   cases l with
   | nil => simp
   | cons a l => simp
 have f5a : decide ((0 : Int) < (x.length : Int)) = !decide (x = []) := f5 x _
 have f5b : decide ((0 : Int) < (E.length : Int)) = !decide (E = []) := f5 E _
 have f5c : decide ((0 : Int) < (N.length : Int)) = !decide (N = []) := f5 N _
 have f8 : (((u0.toNat : Int) == 0) && (((u1.toNat : Int) == 0) && (((u2.toNat : Int) == 0) && (((u3.toNat : Int) == 0) && ((u4.toNat : Int) == 0))))) = decide ((⟨[u0, u1, u2, u3, u4], rfl⟩ : N5) = zN) := n5_beq u0 u1 u2 u3 u4 0 0 0 0 0
 have hLm : [T.bool (!decide (n = zH)), T.bool (!decide (g = 0)), T.bool (!decide (w = zW)), T.bool (!decide (v = 0)), T.bool f, T.bool (!decide (x = [])), T.bool (!decide (E = [])), T.bool (!decide ((⟨[u0, u1, u2, u3, u4], rfl⟩ : N5) = zN)), T.bool (!decide (N = []))] = L.map T.bool := by rw [← hIs]; rfl
 have zhas : ∀ k, hasT k = .ar 9 1 ((hasL k).map T.bool) := fun _ => rfl
 have z1 : [T.bool false, .bool false, .bool false, .bool false, .bool false, .bool false, .bool false, .bool false, .bool false] = (hasL 0).map T.bool := rfl
 have lens : ∀ k, ((hasL k).map T.bool).length = 9 := fun k => by rw [List.length_map]; exact hasL_len k
 rw [zhas] at hh
 have mlL : (L.map T.bool).length = 9 := by rw [List.length_map]; exact hll
 by_cases he : e = 0
 · rw [if_pos he] at hin
   have he0 : (e != 0) = false := by rw [he]; rfl
   subst hin
   have lm := lens (kA c)
   repeat refine St (And.intro @lapp1 <| And.intro @lapp2 <| And.intro hn <| And.intro mE <| And.intro mN <| And.intro k0 <| And.intro k1 <| And.intro k2 <| And.intro k3 <| And.intro k4 <| And.intro k5 <| And.intro k6 <| And.intro hh <| And.intro he0 <| And.intro f1 <| And.intro f2 <| And.intro f3 <| And.intro f4 <| And.intro f5a <| And.intro f5b <| And.intro f5c <| And.intro f8 <| And.intro lm <| And.intro hLm <| @zar9) ct37 ?_
   refine AWP.loop (G := { i : Nat // i ≤ 9 ∧ ∀ j, j < i → L.getD j false = true → (hasL (kA c)).getD j false = true }) (fun i => ⟨[(1, .ptr 0 0 []), (3, .ptr 1 0 []), (4, .ptr 2 0 []), (5, .t (.int .i64 (i.1 : Int)))], [.bx (.t (.st [.int .u8 (c.toNat : Int), .int .i64 e, .ba 32 n.1, .int .u32 (g.toNat : Int), .ar 4 1 [.int .u64 (w.a.toNat : Int), .int .u64 (w.b.toNat : Int), .int .u64 (w.c.toNat : Int), .int .u64 (w.d.toNat : Int)], .int .u64 (v.toNat : Int), .bool f, .by x, .sq 69 (E.map eT), .ar 5 1 [.int .u32 (u0.toNat : Int), .int .u32 (u1.toNat : Int), .int .u32 (u2.toNat : Int), .int .u32 (u3.toNat : Int), .int .u32 (u4.toNat : Int)], .sq 32 (N.map hT)])), .bx (.t (.ar 9 1 ((hasL (kA c)).map T.bool))), .bx (.t (.ar 9 1 (L.map T.bool)))]⟩) (fun i => 9 - i.1) ⟨0, by omega, fun j h => absurd h (by omega)⟩ (Wt trivial [1, 3, 4, 5] [0, 1, 2]) ?_
   rintro ⟨i, hi, hall⟩
   dsimp only
   by_cases hlt : i < 9
   · have hlt2 : (i : Int) < 9 := by omega
     have hgl := bt_map L i (by omega)
     have hgm := bt_map (hasL (kA c)) i (by omega)
     have hw : IntKind.i64.wrap ((i : Int) + 1) = ((i + 1 : Nat) : Int) := by rw [wrap_i64 (by omega) (by omega)]; omega
     cases hx : L.getD i false with
     | false =>
       rw [hx] at hgl
       repeat refine St (And.intro hlt2 <| And.intro hlt <| And.intro hgl <| And.intro mlL <| And.intro lm <| hw) ct37 ?_
       exact ⟨⟨i + 1, by omega, fun j hj hl => by
         by_cases hji : j = i
         · subst hji; rw [hx] at hl; cases hl
         · exact hall j (by omega) hl⟩, (Wt trivial [1, 3, 4, 5] [0, 1, 2]), by simp only; omega⟩
     | true =>
       rw [hx] at hgl
       cases hy : (hasL (kA c)).getD i false with
       | false =>
         rw [hy] at hgm
         rw [hmay, allowL_no L (hasL (kA c)) i (by omega) (by omega) hx hy, Bool.false_and]
         repeat refine St (And.intro hlt2 <| And.intro hlt <| And.intro hgl <| And.intro hgm <| And.intro mlL <| lm) ct37 ?_
         exact AWP.ret (Fin trivial [] [])
       | true =>
         rw [hy] at hgm
         repeat refine St (And.intro hlt2 <| And.intro hlt <| And.intro hgl <| And.intro hgm <| And.intro mlL <| And.intro lm <| hw) ct37 ?_
         exact ⟨⟨i + 1, by omega, fun j hj hl => by
           by_cases hji : j = i
           · subst hji; exact hy
           · exact hall j (by omega) hl⟩, (Wt trivial [1, 3, 4, 5] [0, 1, 2]), by simp only; omega⟩
   obtain rfl : i = 9 := by omega
   rw [allowL_yes L (hasL (kA c)) (by omega) (fun j hj => hall j (by omega)), Bool.true_and] at hmay
   have h99 : ¬ ((9 : Nat) : Int) < 9 := by decide
   repeat refine St h99 ct37 ?_
   refine AWP.loop (G := { i : Nat // i ≤ E.length ∧ (E.take i).all okEb = true }) (fun i => ⟨[(1, .ptr 0 0 []), (6, .t (.int .i64 (i.1 : Int)))], [.bx (.t (.st [.int .u8 (c.toNat : Int), .int .i64 e, .ba 32 n.1, .int .u32 (g.toNat : Int), .ar 4 1 [.int .u64 (w.a.toNat : Int), .int .u64 (w.b.toNat : Int), .int .u64 (w.c.toNat : Int), .int .u64 (w.d.toNat : Int)], .int .u64 (v.toNat : Int), .bool f, .by x, .sq 69 (E.map eT), .ar 5 1 [.int .u32 (u0.toNat : Int), .int .u32 (u1.toNat : Int), .int .u32 (u2.toNat : Int), .int .u32 (u3.toNat : Int), .int .u32 (u4.toNat : Int)], .sq 32 (N.map hT)]))]⟩) (fun i => E.length - i.1) ⟨0, by omega, rfl⟩ (Wt trivial [1, 6] [0]) ?_
   rintro ⟨i, hi, hall⟩
   dsimp only
   by_cases hlt : i < E.length
   · have hlt2 : (i : Int) < (E.length : Int) := by omega
     have hg := ent_getD E i hlt
     have hgi : E.getD i dE = E[i] := by rw [List.getD_eq_getElem?_getD]; simp [hlt]
     have hno : okEb (E.getD i dE) = false → E.all okEb = false := fun h => by
       rw [hgi] at h
       rw [List.all_eq_false]
       exact ⟨E[i], List.getElem_mem hlt, by rw [h]; simp⟩
     have hys : okEb (E.getD i dE) = true → (E.take (i + 1)).all okEb = true := fun h => by
       rw [hgi] at h
       rw [List.take_succ_eq_append_getElem hlt, List.all_append, hall, List.all_cons, h]; rfl
     have hw : IntKind.i64.wrap ((i : Int) + 1) = ((i + 1 : Nat) : Int) := by rw [wrap_i64 (by omega) (by omega)]; omega
     generalize E.getD i dE = y at *
     rw [eT_st] at hg
     have hy1 := y.tx.2
     have hy2 := y.tpl.2
     by_cases c1 : y.plan < 0
     · rw [hmay, hno (by unfold okEb; rw [decide_eq_false (show ¬ 0 ≤ y.plan by omega)]; rfl)]
       repeat refine St (And.intro hlt2 <| And.intro hlt <| And.intro hg <| And.intro mE <| And.intro hy1 <| And.intro hy2 <| c1) ct37 ?_
       exact AWP.ret (Fin trivial [] [])
     by_cases c2 : (2147483648 : Int) ≤ y.plan
     · rw [hmay, hno (by unfold okEb; rw [decide_eq_false (show ¬ y.plan < 2147483648 by omega), Bool.and_false]; rfl)]
       repeat refine St (And.intro hlt2 <| And.intro hlt <| And.intro hg <| And.intro mE <| And.intro hy1 <| And.intro hy2 <| And.intro c1 <| c2) ct37 ?_
       exact AWP.ret (Fin trivial [] [])
     by_cases c3 : y.state < 0
     · rw [hmay, hno (by unfold okEb; rw [decide_eq_false (show ¬ 0 ≤ y.state by omega), Bool.and_false]; rfl)]
       repeat refine St (And.intro hlt2 <| And.intro hlt <| And.intro hg <| And.intro mE <| And.intro hy1 <| And.intro hy2 <| And.intro c1 <| And.intro c2 <| @c3) ct37 ?_
       exact AWP.ret (Fin trivial [] [])
     by_cases c4 : (2147483648 : Int) ≤ y.state
     · rw [hmay, hno (by unfold okEb; rw [decide_eq_false (show ¬ y.state < 2147483648 by omega), Bool.and_false])]
       repeat refine St (And.intro hlt2 <| And.intro hlt <| And.intro hg <| And.intro mE <| And.intro hy1 <| And.intro hy2 <| And.intro c1 <| And.intro c2 <| And.intro @c3 <| c4) ct37 ?_
       exact AWP.ret (Fin trivial [] [])
     have hok := hys ((okEb_iff y).2 ⟨⟨by omega, by omega⟩, by omega, by omega⟩)
     repeat refine St (And.intro hlt2 <| And.intro hlt <| And.intro hg <| And.intro mE <| And.intro hy1 <| And.intro hy2 <| And.intro c1 <| And.intro c2 <| And.intro @c3 <| And.intro c4 <| hw) ct37 ?_
     exact ⟨⟨i + 1, by omega, hok⟩, (Wt trivial [1, 6] [0]), by simp only; omega⟩
   obtain rfl : i = E.length := by omega
   rw [List.take_length] at hall
   rw [hmay, hall]
   have h99 : ¬ (E.length : Int) < (E.length : Int) := by omega
   repeat refine St (And.intro h99 <| mE) ct37 ?_
   exact AWP.ret (Fin trivial [] [])
 · rw [if_neg he] at hin
   have he0 : (e != 0) = true := by rw [bne_iff_ne]; exact he
   subst hin
   have lm := lens 0
   repeat refine St (And.intro @lapp1 <| And.intro @lapp2 <| And.intro hn <| And.intro mE <| And.intro mN <| And.intro k0 <| And.intro k1 <| And.intro k2 <| And.intro k3 <| And.intro k4 <| And.intro k5 <| And.intro k6 <| And.intro hh <| And.intro he0 <| And.intro f1 <| And.intro f2 <| And.intro f3 <| And.intro f4 <| And.intro f5a <| And.intro f5b <| And.intro f5c <| And.intro f8 <| And.intro lm <| And.intro hLm <| @zar9) ct37 ?_
   refine AWP.loop (G := { i : Nat // i ≤ 9 ∧ ∀ j, j < i → L.getD j false = true → (hasL 0).getD j false = true }) (fun i => ⟨[(1, .ptr 0 0 []), (3, .ptr 1 0 []), (4, .ptr 2 0 []), (5, .t (.int .i64 (i.1 : Int)))], [.bx (.t (.st [.int .u8 (c.toNat : Int), .int .i64 e, .ba 32 n.1, .int .u32 (g.toNat : Int), .ar 4 1 [.int .u64 (w.a.toNat : Int), .int .u64 (w.b.toNat : Int), .int .u64 (w.c.toNat : Int), .int .u64 (w.d.toNat : Int)], .int .u64 (v.toNat : Int), .bool f, .by x, .sq 69 (E.map eT), .ar 5 1 [.int .u32 (u0.toNat : Int), .int .u32 (u1.toNat : Int), .int .u32 (u2.toNat : Int), .int .u32 (u3.toNat : Int), .int .u32 (u4.toNat : Int)], .sq 32 (N.map hT)])), .bx (.t (.ar 9 1 ((hasL 0).map T.bool))), .bx (.t (.ar 9 1 (L.map T.bool)))]⟩) (fun i => 9 - i.1) ⟨0, by omega, fun j h => absurd h (by omega)⟩ (Wt z1 [1, 3, 4, 5] [0, 1, 2]) ?_
   rintro ⟨i, hi, hall⟩
   dsimp only
   by_cases hlt : i < 9
   · have hlt2 : (i : Int) < 9 := by omega
     have hgl := bt_map L i (by omega)
     have hgm := bt_map (hasL 0) i (by omega)
     have hw : IntKind.i64.wrap ((i : Int) + 1) = ((i + 1 : Nat) : Int) := by rw [wrap_i64 (by omega) (by omega)]; omega
     cases hx : L.getD i false with
     | false =>
       rw [hx] at hgl
       repeat refine St (And.intro hlt2 <| And.intro hlt <| And.intro hgl <| And.intro mlL <| And.intro lm <| hw) ct37 ?_
       exact ⟨⟨i + 1, by omega, fun j hj hl => by
         by_cases hji : j = i
         · subst hji; rw [hx] at hl; cases hl
         · exact hall j (by omega) hl⟩, (Wt trivial [1, 3, 4, 5] [0, 1, 2]), by simp only; omega⟩
     | true =>
       rw [hx] at hgl
       cases hy : (hasL 0).getD i false with
       | false =>
         rw [hy] at hgm
         rw [hmay, allowL_no L (hasL 0) i (by omega) (by omega) hx hy, Bool.false_and]
         repeat refine St (And.intro hlt2 <| And.intro hlt <| And.intro hgl <| And.intro hgm <| And.intro mlL <| lm) ct37 ?_
         exact AWP.ret (Fin trivial [] [])
       | true =>
         rw [hy] at hgm
         repeat refine St (And.intro hlt2 <| And.intro hlt <| And.intro hgl <| And.intro hgm <| And.intro mlL <| And.intro lm <| hw) ct37 ?_
         exact ⟨⟨i + 1, by omega, fun j hj hl => by
           by_cases hji : j = i
           · subst hji; exact hy
           · exact hall j (by omega) hl⟩, (Wt trivial [1, 3, 4, 5] [0, 1, 2]), by simp only; omega⟩
   obtain rfl : i = 9 := by omega
   rw [allowL_yes L (hasL 0) (by omega) (fun j hj => hall j (by omega)), Bool.true_and] at hmay
   have h99 : ¬ ((9 : Nat) : Int) < 9 := by decide
   repeat refine St h99 ct37 ?_
   refine AWP.loop (G := { i : Nat // i ≤ E.length ∧ (E.take i).all okEb = true }) (fun i => ⟨[(1, .ptr 0 0 []), (6, .t (.int .i64 (i.1 : Int)))], [.bx (.t (.st [.int .u8 (c.toNat : Int), .int .i64 e, .ba 32 n.1, .int .u32 (g.toNat : Int), .ar 4 1 [.int .u64 (w.a.toNat : Int), .int .u64 (w.b.toNat : Int), .int .u64 (w.c.toNat : Int), .int .u64 (w.d.toNat : Int)], .int .u64 (v.toNat : Int), .bool f, .by x, .sq 69 (E.map eT), .ar 5 1 [.int .u32 (u0.toNat : Int), .int .u32 (u1.toNat : Int), .int .u32 (u2.toNat : Int), .int .u32 (u3.toNat : Int), .int .u32 (u4.toNat : Int)], .sq 32 (N.map hT)]))]⟩) (fun i => E.length - i.1) ⟨0, by omega, rfl⟩ (Wt trivial [1, 6] [0]) ?_
   rintro ⟨i, hi, hall⟩
   dsimp only
   by_cases hlt : i < E.length
   · have hlt2 : (i : Int) < (E.length : Int) := by omega
     have hg := ent_getD E i hlt
     have hgi : E.getD i dE = E[i] := by rw [List.getD_eq_getElem?_getD]; simp [hlt]
     have hno : okEb (E.getD i dE) = false → E.all okEb = false := fun h => by
       rw [hgi] at h
       rw [List.all_eq_false]
       exact ⟨E[i], List.getElem_mem hlt, by rw [h]; simp⟩
     have hys : okEb (E.getD i dE) = true → (E.take (i + 1)).all okEb = true := fun h => by
       rw [hgi] at h
       rw [List.take_succ_eq_append_getElem hlt, List.all_append, hall, List.all_cons, h]; rfl
     have hw : IntKind.i64.wrap ((i : Int) + 1) = ((i + 1 : Nat) : Int) := by rw [wrap_i64 (by omega) (by omega)]; omega
     generalize E.getD i dE = y at *
     rw [eT_st] at hg
     have hy1 := y.tx.2
     have hy2 := y.tpl.2
     by_cases c1 : y.plan < 0
     · rw [hmay, hno (by unfold okEb; rw [decide_eq_false (show ¬ 0 ≤ y.plan by omega)]; rfl)]
       repeat refine St (And.intro hlt2 <| And.intro hlt <| And.intro hg <| And.intro mE <| And.intro hy1 <| And.intro hy2 <| c1) ct37 ?_
       exact AWP.ret (Fin trivial [] [])
     by_cases c2 : (2147483648 : Int) ≤ y.plan
     · rw [hmay, hno (by unfold okEb; rw [decide_eq_false (show ¬ y.plan < 2147483648 by omega), Bool.and_false]; rfl)]
       repeat refine St (And.intro hlt2 <| And.intro hlt <| And.intro hg <| And.intro mE <| And.intro hy1 <| And.intro hy2 <| And.intro c1 <| c2) ct37 ?_
       exact AWP.ret (Fin trivial [] [])
     by_cases c3 : y.state < 0
     · rw [hmay, hno (by unfold okEb; rw [decide_eq_false (show ¬ 0 ≤ y.state by omega), Bool.and_false]; rfl)]
       repeat refine St (And.intro hlt2 <| And.intro hlt <| And.intro hg <| And.intro mE <| And.intro hy1 <| And.intro hy2 <| And.intro c1 <| And.intro c2 <| @c3) ct37 ?_
       exact AWP.ret (Fin trivial [] [])
     by_cases c4 : (2147483648 : Int) ≤ y.state
     · rw [hmay, hno (by unfold okEb; rw [decide_eq_false (show ¬ y.state < 2147483648 by omega), Bool.and_false])]
       repeat refine St (And.intro hlt2 <| And.intro hlt <| And.intro hg <| And.intro mE <| And.intro hy1 <| And.intro hy2 <| And.intro c1 <| And.intro c2 <| And.intro @c3 <| c4) ct37 ?_
       exact AWP.ret (Fin trivial [] [])
     have hok := hys ((okEb_iff y).2 ⟨⟨by omega, by omega⟩, by omega, by omega⟩)
     repeat refine St (And.intro hlt2 <| And.intro hlt <| And.intro hg <| And.intro mE <| And.intro hy1 <| And.intro hy2 <| And.intro c1 <| And.intro c2 <| And.intro @c3 <| And.intro c4 <| hw) ct37 ?_
     exact ⟨⟨i + 1, by omega, hok⟩, (Wt trivial [1, 6] [0]), by simp only; omega⟩
   obtain rfl : i = E.length := by omega
   rw [List.take_length] at hall
   rw [hmay, hall]
   have h99 : ¬ (E.length : Int) < (E.length : Int) := by omega
   repeat refine St (And.intro h99 <| mE) ct37 ?_
   exact AWP.ret (Fin trivial [] [])
end Go.Fw

end

section
namespace Go.Fw
open Go Go.Proofs
def pB (k : Nat) (l : List UInt8) : Blk := if k = 1 ∨ k = 7 then .no else .by l
noncomputable def G38 : GFun
 | [.by l], [.own 0, .t y] => match inv aT y with
   | some a => @ite _ ((isOp a.op = true ∧ sizA a ∧ l.length ≤ 100000)) (Classical.propDecidable _) ((some ([pB (kA a.op) l, .by (l ++ bodyAK (kA a.op) a)], .own 1))) none
   | none => none
 | _, _ => none
theorem ct38 : CT [(28, ⟨[false, false, false], treeG F28⟩), (29, ⟨[false, false], treeG F29⟩), (50, ⟨[false, false], treeG F50⟩), (63, ⟨[false], treeG F63⟩), (64, ⟨[false], treeG F64⟩), (65, ⟨[true, false], G65⟩)] [0, 1, 3, 4, 5, 6, 7, 8, 10, 11, 28, 36, 57, 66, 78, 89, 92, 103, 119] [(17, [⟨0, [0], [], []⟩, ⟨0, [3], [], []⟩, ⟨1, [60], [], []⟩, ⟨1, [59, 61], [2], []⟩, ⟨0, [3], [], []⟩, ⟨1, [63], [], []⟩, ⟨1, [62, 64], [2, 3, 5], []⟩, ⟨0, [65], [2, 3, 5, 6], []⟩])] := ⟨(.cons c28.g (.cons c29.g (.cons c50.g (.cons c63.g (.cons c64.g (.cons g65 (.nil _)))))))⟩
theorem isOp_ne {c : UInt8} (h : isOp c = true) (a1 : c ≠ 1) (a2 : c ≠ 2) (a5 : c ≠ 5) (a9 : c ≠ 9) (a3 : c ≠ 3) (a4 : c ≠ 4) (a6 : c ≠ 6) (a7 : c ≠ 7) (a8 : c ≠ 8) (a10 : c ≠ 10) : False := by
 unfold isOp at h
 simp only [Bool.and_eq_true, decide_eq_true_eq] at h
 have k : ∀ n : UInt8, c ≠ n → c.toNat ≠ n.toNat := fun n h hh => h (UInt8.toNat_inj.1 hh)
 have h1 : c.toNat ≠ 1 := k 1 a1
 have h2 : c.toNat ≠ 2 := k 2 a2
 have h3 : c.toNat ≠ 3 := k 3 a3
 have h4 : c.toNat ≠ 4 := k 4 a4
 have h5 : c.toNat ≠ 5 := k 5 a5
 have h6 : c.toNat ≠ 6 := k 6 a6
 have h7 : c.toNat ≠ 7 := k 7 a7
 have h8 : c.toNat ≠ 8 := k 8 a8
 have h9 : c.toNat ≠ 9 := k 9 a9
 have h10 : c.toNat ≠ 10 := k 10 a10
 omega
theorem entR_c {l : List UInt8} {e : TE} (h : okE e) (hl : l.length ≤ 100000000) : G65 [.by l] [.own 0, .t (eT e)] = some ([.no, .by (l ++ entB e)], .own 1) := by
 simp only [G65, inv_of eT_inj]
 exact if_pos ⟨h, hl⟩
set_option maxRecDepth 20000 in
set_option maxHeartbeats 8000000 in
theorem g38 : GCon Try.prog 38 G38 := by
 refine gconc E_ok (rs := [.tmp 4 24]) Try.func38 rfl Try.ntmps38 (by kernel_rfl) rfl (by decide) G38 (np := 2) ?_ ?_
 · intro HB xs h; unfold G38; split <;> first | rfl | (simp at h; done)
 intro HB xs H r hG hwf hex
 unfold G38 at hG
 split at hG <;> try (cases hG; done)
 rename_i l y
 split at hG <;> try (cases hG; done)
 rename_i a ha
 split at hG
 case isFalse => cases hG
 rename_i hc
 cases hG
 obtain rfl := inv_inv ha
 obtain ⟨hop, ⟨hs1, hs2, hs3, hs4⟩, hl⟩ := hc
 obtain ⟨c, e, n, g, w, v, f, x, E, ⟨nu, hnu⟩, N⟩ := a
 rw [aT_st]
 simp only [wT_st]
 dsimp only at hop hs1 hs2 hs3 hs4 ⊢
 have hn := n.2
 have hw := (wB w).2
 have ht1 : n.1.take 32 = n.1 := List.take_of_length_le (by omega)
 have ht2 : (wB w).1.take 32 = (wB w).1 := List.take_of_length_le (by omega)
 have hgl := g.toNat_lt
 have hvl := v.toNat_lt
 have u1 : IntKind.u64.wrap (g.toNat : Int) = (g.toNat : Int) := wrap_u64 (by omega) (by omega)
 have q4 : (4 : Int).toNat = 4 := rfl
 have q8 : (8 : Int).toNat = 8 := rfl
 have mE : (E.map eT).length = E.length := List.length_map ..
 have mN : (N.map hT).length = N.length := List.length_map ..
 have hsb := sizeB_len (x.length : Int)
 have hsE := sizeB_len (E.length : Int)
 have hsN := sizeB_len (N.length : Int)
 rcases kA_of c with ⟨a1, hk⟩ | ⟨a1, a2, hk⟩ | ⟨a1, a2, a5, hk⟩ | ⟨a1, a2, a5, a9, hk⟩ | ⟨a1, a2, a5, a9, a3, hk⟩ | ⟨a1, a2, a5, a9, a3, a4, hk⟩ | ⟨a1, a2, a5, a9, a3, a4, a6, hk⟩ | ⟨a1, a2, a5, a9, a3, a4, a6, a7, hk⟩ | ⟨a1, a2, a5, a9, a3, a4, a6, a7, a8, hk⟩ | ⟨a1, a2, a5, a9, a3, a4, a6, a7, a8, a10, hk⟩ | ⟨a1, a2, a5, a9, a3, a4, a6, a7, a8, a10, hk⟩
 · rw [hk]
   rw [show pB 1 l = .no from rfl]
   have d1 : ((c.toNat : Int) == 1) = true := c8_eq 1 a1
   have hwb : F63 [.ar 4 1 [.int .u64 (w.a.toNat : Int), .int .u64 (w.b.toNat : Int), .int .u64 (w.c.toNat : Int), .int .u64 (w.d.toNat : Int)]] = some ([], .t (.ba 32 (wB w).1)) := rwbytes_c w
   have p1 := put_c (b := l ++ n.1) (g.toNat : Int) 4 (by rw [List.length_append]; omega) (by omega) (by omega)
   rw [q4] at p1
   have hent : l ++ bodyAK 1 ⟨c, e, n, g, w, v, f, x, E, ⟨nu, hnu⟩, N⟩ = l ++ n.1 ++ le 4 (g.toNat : Int) ++ (wB w).1 := by simp only [bodyAK, n4B, List.append_assoc]
   rw [hent]
   repeat refine St (And.intro (And.intro @gentry.eq_1 <| @gentry.eq_2) <| And.intro d1 <| And.intro hn <| And.intro ht1 <| And.intro hwb <| And.intro p1 <| And.intro u1 <| And.intro hw <| And.intro ht2 <| And.intro @le_len <| hl) ct38 ?_
   exact AWP.ret (Fin trivial [] [0, 5])
 · rw [hk]
   rw [show pB 2 l = .by l from rfl]
   have d1 : ((c.toNat : Int) == 1) = false := c8_ne 1 a1
   have d2 : ((c.toNat : Int) == 2) = true := c8_eq 2 a2
   have p1 : F29 [.by l, .by x] = some ([.by (l ++ sizeB x.length ++ x)], .own 0) := if_pos (by omega)
   have hent : l ++ bodyAK 2 ⟨c, e, n, g, w, v, f, x, E, ⟨nu, hnu⟩, N⟩ = l ++ sizeB x.length ++ x := by simp only [bodyAK, btsB, List.append_assoc]
   rw [hent]
   repeat refine St (And.intro (And.intro @gentry.eq_1 <| @gentry.eq_2) <| And.intro d1 <| And.intro d2 <| And.intro hn <| p1) ct38 ?_
   exact AWP.ret (Fin trivial [] [0, 2])
 · rw [hk]
   rw [show pB 2 l = .by l from rfl]
   have d1 : ((c.toNat : Int) == 1) = false := c8_ne 1 a1
   have d2 : ((c.toNat : Int) == 2) = false := c8_ne 2 a2
   have d5 : ((c.toNat : Int) == 5) = true := c8_eq 5 a5
   have p1 : F29 [.by l, .by x] = some ([.by (l ++ sizeB x.length ++ x)], .own 0) := if_pos (by omega)
   have hent : l ++ bodyAK 2 ⟨c, e, n, g, w, v, f, x, E, ⟨nu, hnu⟩, N⟩ = l ++ sizeB x.length ++ x := by simp only [bodyAK, btsB, List.append_assoc]
   rw [hent]
   repeat refine St (And.intro (And.intro @gentry.eq_1 <| @gentry.eq_2) <| And.intro d1 <| And.intro d2 <| And.intro d5 <| And.intro hn <| p1) ct38 ?_
   exact AWP.ret (Fin trivial [] [0, 2])
 · rw [hk]
   rw [show pB 2 l = .by l from rfl]
   have d1 : ((c.toNat : Int) == 1) = false := c8_ne 1 a1
   have d2 : ((c.toNat : Int) == 2) = false := c8_ne 2 a2
   have d5 : ((c.toNat : Int) == 5) = false := c8_ne 5 a5
   have d9 : ((c.toNat : Int) == 9) = true := c8_eq 9 a9
   have p1 : F29 [.by l, .by x] = some ([.by (l ++ sizeB x.length ++ x)], .own 0) := if_pos (by omega)
   have hent : l ++ bodyAK 2 ⟨c, e, n, g, w, v, f, x, E, ⟨nu, hnu⟩, N⟩ = l ++ sizeB x.length ++ x := by simp only [bodyAK, btsB, List.append_assoc]
   rw [hent]
   repeat refine St (And.intro (And.intro @gentry.eq_1 <| @gentry.eq_2) <| And.intro d1 <| And.intro d2 <| And.intro d5 <| And.intro d9 <| And.intro hn <| p1) ct38 ?_
   exact AWP.ret (Fin trivial [] [0, 2])
 · rw [hk]
   rw [show pB 3 l = .by l from rfl]
   have d1 : ((c.toNat : Int) == 1) = false := c8_ne 1 a1
   have d2 : ((c.toNat : Int) == 2) = false := c8_ne 2 a2
   have d5 : ((c.toNat : Int) == 5) = false := c8_ne 5 a5
   have d9 : ((c.toNat : Int) == 9) = false := c8_ne 9 a9
   have d3 : ((c.toNat : Int) == 3) = true := c8_eq 3 a3
   have p1 := put_c (b := l) (v.toNat : Int) 8 (by omega) (by omega) (by omega)
   have p2 := put_c (b := l ++ le 8 (v.toNat : Int)) (g.toNat : Int) 4 (by simp [le_len]; omega) (by omega) (by omega)
   rw [q8] at p1
   rw [q4] at p2
   have hfl : F64 [.bool f] = some ([], .t (.int .u8 (if f then 1 else 0))) := rfl
   have hfb : ∀ b : Bool, UInt8.ofNat (if b then (1 : Int) else 0).toNat = if b then 1 else 0 := fun b => by cases b <;> rfl
   have p3 : F29 [.by (l ++ le 8 (v.toNat : Int) ++ le 4 (g.toNat : Int) ++ [if f then 1 else 0]), .by x] = some ([.by (l ++ le 8 (v.toNat : Int) ++ le 4 (g.toNat : Int) ++ [if f then 1 else 0] ++ sizeB x.length ++ x)], .own 0) := if_pos (by simp [le_len]; omega)
   have hent : l ++ bodyAK 3 ⟨c, e, n, g, w, v, f, x, E, ⟨nu, hnu⟩, N⟩ = l ++ le 8 (v.toNat : Int) ++ le 4 (g.toNat : Int) ++ [if f then 1 else 0] ++ sizeB x.length ++ x := by simp only [bodyAK, n4B, btsB, flagB, List.append_assoc]
   rw [hent]
   repeat refine St (And.intro (And.intro @gentry.eq_1 <| @gentry.eq_2) <| And.intro d1 <| And.intro d2 <| And.intro d5 <| And.intro d9 <| And.intro d3 <| And.intro hn <| And.intro p1 <| And.intro p2 <| And.intro u1 <| And.intro hfl <| And.intro hfb <| And.intro p3 <| And.intro @le_len <| hl) ct38 ?_
   exact AWP.ret (Fin trivial [] [0, 6])
 · rw [hk]
   rw [show pB 4 l = .by l from rfl]
   have d1 : ((c.toNat : Int) == 1) = false := c8_ne 1 a1
   have d2 : ((c.toNat : Int) == 2) = false := c8_ne 2 a2
   have d5 : ((c.toNat : Int) == 5) = false := c8_ne 5 a5
   have d9 : ((c.toNat : Int) == 9) = false := c8_ne 9 a9
   have d3 : ((c.toNat : Int) == 3) = false := c8_ne 3 a3
   have d4 : ((c.toNat : Int) == 4) = true := c8_eq 4 a4
   have p1 := put_c (b := l) (v.toNat : Int) 8 (by omega) (by omega) (by omega)
   rw [q8] at p1
   have p3 : F29 [.by (l ++ le 8 (v.toNat : Int)), .by x] = some ([.by (l ++ le 8 (v.toNat : Int) ++ sizeB x.length ++ x)], .own 0) := if_pos (by simp [le_len]; omega)
   have hent : l ++ bodyAK 4 ⟨c, e, n, g, w, v, f, x, E, ⟨nu, hnu⟩, N⟩ = l ++ le 8 (v.toNat : Int) ++ sizeB x.length ++ x := by simp only [bodyAK, btsB, List.append_assoc]
   rw [hent]
   repeat refine St (And.intro (And.intro @gentry.eq_1 <| @gentry.eq_2) <| And.intro d1 <| And.intro d2 <| And.intro d5 <| And.intro d9 <| And.intro d3 <| And.intro d4 <| And.intro hn <| And.intro p1 <| And.intro p3 <| And.intro @le_len <| hl) ct38 ?_
   exact AWP.ret (Fin trivial [] [0, 3])
 · rw [hk]
   rw [show pB 5 l = .by l from rfl]
   have d1 : ((c.toNat : Int) == 1) = false := c8_ne 1 a1
   have d2 : ((c.toNat : Int) == 2) = false := c8_ne 2 a2
   have d5 : ((c.toNat : Int) == 5) = false := c8_ne 5 a5
   have d9 : ((c.toNat : Int) == 9) = false := c8_ne 9 a9
   have d3 : ((c.toNat : Int) == 3) = false := c8_ne 3 a3
   have d4 : ((c.toNat : Int) == 4) = false := c8_ne 4 a4
   have d6 : ((c.toNat : Int) == 6) = true := c8_eq 6 a6
   have hul : IntKind.u64.wrap (E.length : Int) = (E.length : Int) := wrap_u64 (by omega) (by omega)
   have p1 : F50 [.by l, .int .u64 (E.length : Int)] = some ([.by (l ++ sizeB E.length)], .own 0) := if_pos (by omega)
   have hcl : ∀ i, (cat entB (E.take i)).length ≤ 88000 := fun i => Nat.le_trans (cat_len entB 88 _ fun x _ => by rw [entB_len]; exact Nat.le_refl _) (by rw [List.length_take]; omega)
   repeat refine St (And.intro (And.intro @gentry.eq_1 <| @gentry.eq_2) <| And.intro d1 <| And.intro d2 <| And.intro d5 <| And.intro d9 <| And.intro d3 <| And.intro d4 <| And.intro d6 <| And.intro hn <| And.intro p1 <| And.intro hul <| And.intro mE <| And.intro mE <| mN) ct38 ?_
   refine AWP.loop (G := { i : Nat // i ≤ E.length }) (fun i => ⟨[(0, .own 2), (3, .ptr 1 0 []), (6, .t (.int .i64 (i.1 : Int)))], [.by l, .bx (.t (.st [.int .u8 (c.toNat : Int), .int .i64 e, .ba 32 n.1, .int .u32 (g.toNat : Int), .ar 4 1 [.int .u64 (w.a.toNat : Int), .int .u64 (w.b.toNat : Int), .int .u64 (w.c.toNat : Int), .int .u64 (w.d.toNat : Int)], .int .u64 (v.toNat : Int), .bool f, .by x, .sq 69 (E.map eT), .ar 5 1 (nu.map nT), .sq 32 (N.map hT)])), .by (l ++ sizeB E.length ++ cat entB (E.take i.1))]⟩) (fun i => E.length - i.1) ⟨0, by omega⟩ (Wt (And.intro @List.take_zero.{0} <| And.intro @cat_nil <| @List.append_nil.{0}) [0, 3, 6] [0, 1, 2]) ?_
   rintro ⟨i, hi⟩
   dsimp only
   by_cases hlt : i < E.length
   · have hlt2 : (i : Int) < (E.length : Int) := by omega
     have h2 := cat_take entB dE E i hlt
     have hci := hcl i
     have hll : (l ++ sizeB E.length ++ cat entB (E.take i)).length ≤ 100000000 := by simp; omega
     have hw : IntKind.i64.wrap ((i : Int) + 1) = ((i + 1 : Nat) : Int) := by rw [wrap_i64 (by omega) (by omega)]; omega
     have hg := ent_getD E i hlt
     have h1 := entR_c (l := l ++ sizeB E.length ++ cat entB (E.take i)) (e := E.getD i dE) (hs4 _ (by rw [List.getD_eq_getElem?_getD]; simp [hlt])) hll
     rw [eT_st] at h1 hg
     repeat refine St (And.intro hlt2 <| And.intro hlt <| And.intro hll <| And.intro hw <| And.intro hn <| And.intro mE <| And.intro mN <| And.intro hg <| h1) ct38 ?_
     exact ⟨⟨i + 1, by omega⟩, (Wt (And.intro h2 <| @List.append_assoc.{0}) [0, 3, 6] [0, 1, 3]), by simp only; omega⟩
   · obtain rfl : i = E.length := by omega
     have hlt2 : ¬ (E.length : Int) < (E.length : Int) := by omega
     rw [List.take_length]
     repeat refine St (And.intro hlt2 <| And.intro hn <| And.intro mE <| mN) ct38 ?_
     exact AWP.ret (Fin (And.intro @bodyAK.eq_def <| @List.append_assoc.{0}) [] [0, 2])
 · rw [hk]
   rw [show pB 6 l = .by l from rfl]
   have d1 : ((c.toNat : Int) == 1) = false := c8_ne 1 a1
   have d2 : ((c.toNat : Int) == 2) = false := c8_ne 2 a2
   have d5 : ((c.toNat : Int) == 5) = false := c8_ne 5 a5
   have d9 : ((c.toNat : Int) == 9) = false := c8_ne 9 a9
   have d3 : ((c.toNat : Int) == 3) = false := c8_ne 3 a3
   have d4 : ((c.toNat : Int) == 4) = false := c8_ne 4 a4
   have d6 : ((c.toNat : Int) == 6) = false := c8_ne 6 a6
   have d7 : ((c.toNat : Int) == 7) = true := c8_eq 7 a7
   have hst : ∀ i, i < 5 → cat n4B (nu.take (i + 1)) = cat n4B (nu.take i) ++ n4B (nu.getD i 0) := fun i hi => cat_take n4B 0 nu i (by omega)
   have hcl : ∀ i, (cat n4B (nu.take i)).length ≤ 20 := fun i => Nat.le_trans (cat_len n4B 4 _ fun x _ => by simp [n4B, le_len]) (by rw [List.length_take]; omega)
   have mU : (nu.map nT).length = 5 := by rw [List.length_map]; exact hnu
   have hget : ∀ i, i < 5 → (nu.map nT).getD i default = .int .u32 ((nu.getD i 0).toNat : Int) := fun i hi => by simp [hnu, hi, nT]
   have huw : ∀ i, IntKind.u64.wrap ((nu.getD i 0).toNat : Int) = ((nu.getD i 0).toNat : Int) := fun i => by have := (nu.getD i 0).toNat_lt; exact wrap_u64 (by omega) (by omega)
   have hput : ∀ i, F28 [.by (l ++ cat n4B (nu.take i)), .int .u64 ((nu.getD i 0).toNat : Int), .int .i64 4] = some ([.by (l ++ cat n4B (nu.take i) ++ n4B (nu.getD i 0))], .own 0) := fun i => put_c _ 4 (by have := hcl i; rw [List.length_append]; omega) (by omega) (by omega)
   have hw : ∀ i : Nat, i < 5 → IntKind.i64.wrap ((i : Int) + 1) = ((i + 1 : Nat) : Int) := fun i hi => by rw [wrap_i64 (by omega) (by omega)]; omega
   repeat refine St (And.intro (And.intro @gentry.eq_1 <| @gentry.eq_2) <| And.intro d1 <| And.intro d2 <| And.intro d5 <| And.intro d9 <| And.intro d3 <| And.intro d4 <| And.intro d6 <| And.intro d7 <| hn) ct38 ?_
   refine AWP.loop (G := { i : Nat // i ≤ 5 }) (fun i => match i.1 with | 0 => ⟨[(0, .own 0), (3, .ptr 1 0 []), (7, .t (.int .i64 0))], [.by l, .bx (.t (.st [.int .u8 (c.toNat : Int), .int .i64 e, .ba 32 n.1, .int .u32 (g.toNat : Int), .ar 4 1 [.int .u64 (w.a.toNat : Int), .int .u64 (w.b.toNat : Int), .int .u64 (w.c.toNat : Int), .int .u64 (w.d.toNat : Int)], .int .u64 (v.toNat : Int), .bool f, .by x, .sq 69 (E.map eT), .ar 5 1 (nu.map nT), .sq 32 (N.map hT)]))]⟩ | k + 1 => ⟨[(0, .own 2), (3, .ptr 1 0 []), (7, .t (.int .i64 ((k + 1 : Nat) : Int)))], [.by l, .bx (.t (.st [.int .u8 (c.toNat : Int), .int .i64 e, .ba 32 n.1, .int .u32 (g.toNat : Int), .ar 4 1 [.int .u64 (w.a.toNat : Int), .int .u64 (w.b.toNat : Int), .int .u64 (w.c.toNat : Int), .int .u64 (w.d.toNat : Int)], .int .u64 (v.toNat : Int), .bool f, .by x, .sq 69 (E.map eT), .ar 5 1 (nu.map nT), .sq 32 (N.map hT)])), .by (l ++ cat n4B (nu.take (k + 1)))]⟩) (fun i => 5 - i.1) ⟨0, by omega⟩ (Wt trivial [0, 3, 7] [0, 1]) ?_
   rintro ⟨i, hi⟩
   dsimp only
   rcases i with _ | i
   · dsimp only
     have hw0 : IntKind.i64.wrap ((0 : Int) + 1) = ((0 + 1 : Nat) : Int) := hw 0 (by omega)
     have h1 := hput 0
     have h2 := hst 0 (by omega)
     have h3 := hget 0 (by omega)
     have h4 := huw 0
     rw [List.take_zero, cat_nil, List.append_nil] at h1
     rw [List.take_zero, cat_nil, List.nil_append] at h2
     repeat refine St (And.intro h1 <| And.intro h3 <| And.intro h4 <| And.intro hw0 <| And.intro mU <| hn) ct38 ?_
     exact ⟨⟨0 + 1, by omega⟩, (Wt h2 [0, 3, 7] [0, 1, 2]), by simp only; omega⟩
   · dsimp only
     by_cases hlt : i + 1 < 5
     · have hlt2 : ((i + 1 : Nat) : Int) < 5 := by omega
       have hw0 := hw (i + 1) hlt
       have h1 := hput (i + 1)
       have h2 := hst (i + 1) hlt
       have h3 := hget (i + 1) hlt
       have h4 := huw (i + 1)
       generalize i + 1 = j at *
       repeat refine St (And.intro hlt <| And.intro hlt2 <| And.intro h1 <| And.intro h3 <| And.intro h4 <| And.intro hw0 <| And.intro mU <| hn) ct38 ?_
       exact ⟨⟨j + 1, by omega⟩, (Wt (And.intro h2 <| @List.append_assoc.{0}) [0, 3, 7] [0, 1, 3]), by simp only; omega⟩
     · obtain rfl : i = 4 := by omega
       have hlt2 : ¬ ((4 + 1 : Nat) : Int) < 5 := by decide
       have h5 : nu.take (4 + 1) = nu := List.take_of_length_le (by omega)
       rw [h5]
       repeat refine St (And.intro hlt2 <| hn) ct38 ?_
       exact AWP.ret (Fin @bodyAK.eq_def [] [0, 2])
 · rw [hk]
   rw [show pB 7 l = .no from rfl]
   have d1 : ((c.toNat : Int) == 1) = false := c8_ne 1 a1
   have d2 : ((c.toNat : Int) == 2) = false := c8_ne 2 a2
   have d5 : ((c.toNat : Int) == 5) = false := c8_ne 5 a5
   have d9 : ((c.toNat : Int) == 9) = false := c8_ne 9 a9
   have d3 : ((c.toNat : Int) == 3) = false := c8_ne 3 a3
   have d4 : ((c.toNat : Int) == 4) = false := c8_ne 4 a4
   have d6 : ((c.toNat : Int) == 6) = false := c8_ne 6 a6
   have d7 : ((c.toNat : Int) == 7) = false := c8_ne 7 a7
   have d8 : ((c.toNat : Int) == 8) = true := c8_eq 8 a8
   repeat refine St (And.intro (And.intro @gentry.eq_1 <| @gentry.eq_2) <| And.intro d1 <| And.intro d2 <| And.intro d5 <| And.intro d9 <| And.intro d3 <| And.intro d4 <| And.intro d6 <| And.intro d7 <| And.intro d8 <| And.intro hn <| And.intro ht1 <| hl) ct38 ?_
   exact AWP.ret (Fin @bodyAK.eq_def [] [0, 2])
 · rw [hk]
   rw [show pB 8 l = .by l from rfl]
   have d1 : ((c.toNat : Int) == 1) = false := c8_ne 1 a1
   have d2 : ((c.toNat : Int) == 2) = false := c8_ne 2 a2
   have d5 : ((c.toNat : Int) == 5) = false := c8_ne 5 a5
   have d9 : ((c.toNat : Int) == 9) = false := c8_ne 9 a9
   have d3 : ((c.toNat : Int) == 3) = false := c8_ne 3 a3
   have d4 : ((c.toNat : Int) == 4) = false := c8_ne 4 a4
   have d6 : ((c.toNat : Int) == 6) = false := c8_ne 6 a6
   have d7 : ((c.toNat : Int) == 7) = false := c8_ne 7 a7
   have d8 : ((c.toNat : Int) == 8) = false := c8_ne 8 a8
   have hul : IntKind.u64.wrap (N.length : Int) = (N.length : Int) := wrap_u64 (by omega) (by omega)
   have p1 : F50 [.by l, .int .u64 (N.length : Int)] = some ([.by (l ++ sizeB N.length)], .own 0) := if_pos (by omega)
   have hcl : ∀ i, (cat hB (N.take i)).length ≤ 88000 := fun i => Nat.le_trans (cat_len hB 88 _ fun x _ => by show x.1.length ≤ 88; have := x.2; omega) (by rw [List.length_take]; omega)
   repeat refine St (And.intro (And.intro @gentry.eq_1 <| @gentry.eq_2) <| And.intro d1 <| And.intro d2 <| And.intro d5 <| And.intro d9 <| And.intro d3 <| And.intro d4 <| And.intro d6 <| And.intro d7 <| And.intro d8 <| And.intro hn <| And.intro p1 <| And.intro hul <| And.intro mN <| And.intro mE <| mN) ct38 ?_
   refine AWP.loop (G := { i : Nat // i ≤ N.length }) (fun i => ⟨[(0, .own 2), (3, .ptr 1 0 []), (8, .t (.int .i64 (i.1 : Int)))], [.by l, .bx (.t (.st [.int .u8 (c.toNat : Int), .int .i64 e, .ba 32 n.1, .int .u32 (g.toNat : Int), .ar 4 1 [.int .u64 (w.a.toNat : Int), .int .u64 (w.b.toNat : Int), .int .u64 (w.c.toNat : Int), .int .u64 (w.d.toNat : Int)], .int .u64 (v.toNat : Int), .bool f, .by x, .sq 69 (E.map eT), .ar 5 1 (nu.map nT), .sq 32 (N.map hT)])), .by (l ++ sizeB N.length ++ cat hB (N.take i.1))]⟩) (fun i => N.length - i.1) ⟨0, by omega⟩ (Wt (And.intro @List.take_zero.{0} <| And.intro @cat_nil <| @List.append_nil.{0}) [0, 3, 8] [0, 1, 2]) ?_
   rintro ⟨i, hi⟩
   dsimp only
   by_cases hlt : i < N.length
   · have hlt2 : (i : Int) < (N.length : Int) := by omega
     have h2 := cat_take hB zH N i hlt
     have hci := hcl i
     have hll : (l ++ sizeB N.length ++ cat hB (N.take i)).length ≤ 100000000 := by simp; omega
     have hw : IntKind.i64.wrap ((i : Int) + 1) = ((i + 1 : Nat) : Int) := by rw [wrap_i64 (by omega) (by omega)]; omega
     have hg : (N.map hT).getD i default = .ba 32 (N.getD i zH).1 := nam_getD N i hlt
     have hgl2 := (N.getD i zH).2
     have hgt : (N.getD i zH).1.take 32 = (N.getD i zH).1 := List.take_of_length_le (by omega)
     repeat refine St (And.intro hlt2 <| And.intro hlt <| And.intro hll <| And.intro hw <| And.intro hn <| And.intro mE <| And.intro mN <| And.intro hg <| And.intro hgt <| hgl2) ct38 ?_
     exact ⟨⟨i + 1, by omega⟩, (Wt (And.intro h2 <| And.intro @hB.eq_def <| @List.append_assoc.{0}) [0, 3, 8] [0, 1, 3]), by simp only; omega⟩
   · obtain rfl : i = N.length := by omega
     have hlt2 : ¬ (N.length : Int) < (N.length : Int) := by omega
     rw [List.take_length]
     repeat refine St (And.intro hlt2 <| And.intro hn <| And.intro mE <| mN) ct38 ?_
     exact AWP.ret (Fin (And.intro @bodyAK.eq_def <| @List.append_assoc.{0}) [] [0, 2])
 · exact (isOp_ne hop a1 a2 a5 a9 a3 a4 a6 a7 a8 a10).elim
theorem rput_c {l : List UInt8} {a : TA} (h : isOp a.op = true ∧ sizA a ∧ l.length ≤ 100000) : G38 [.by l] [.own 0, .t (aT a)] = some ([pB (kA a.op) l, .by (l ++ bodyAK (kA a.op) a)], .own 1) := by
 simp only [G38, inv_of aT_inj]
 exact if_pos h
end Go.Fw

end

section
namespace Go.Fw
open Go Go.Proofs
theorem rmay_c (a : TA) (h : a.ents.length ≤ 1000000) : F37 [aT a] = some ([], .t (.bool (mayA a))) := by
 simp only [F37, inv_of aT_inj]
 exact if_pos h
noncomputable def F22 : Fun
 | [y] => match inv aT y with
   | some a => if a.ents.length ≤ 1000000 then some ([], .tup [.t (.by (putA a)), .t (.int .i64 (putAe a))]) else none
   | none => none
 | _ => none
theorem ct22 : CT [(37, ⟨[false], treeG F37⟩), (38, ⟨[true, false], G38⟩)] [0, 1, 2, 3, 4, 7, 16] [] := ⟨(.cons c37.g (.cons g38 (.nil _)))⟩
set_option maxRecDepth 20000 in
set_option maxHeartbeats 8000000 in
theorem c22 : ACon Try.prog 22 F22 := by
 refine aconc E_ok (rs := [.tmp 2 24, .tmp 3 28]) Try.func22 rfl Try.ntmps22 (by kernel_rfl) rfl (by decide) F22 (np := 1) ?_ ?_
 · intro ts h; unfold F22; split <;> first | rfl | (simp at h; done)
 intro ts H r hF hwf
 unfold F22 at hF
 split at hF <;> try (cases hF; done)
 split at hF <;> try (cases hF; done)
 rename_i a ha
 split at hF
 case isFalse => cases hF
 rename_i hc
 cases hF
 obtain rfl := inv_inv ha
 have hn := a.name.2
 have hm := rmay_c a hc
 cases hM : mayA a with
 | false =>
   rw [hM] at hm
   rw [(putA_no hM).1, (putA_no hM).2]
   rw [aT_st, wT_st] at hm ⊢
   repeat refine St (And.intro hm <| hn) ct22 ?_
   exact AWP.ret (Fin trivial [] [])
 | true =>
   rw [hM] at hm
   rw [(putA_yes hM).1, (putA_yes hM).2]
   obtain ⟨h1, h2, h3, h4⟩ := mayA_ok hM
   have hof : UInt8.ofNat a.op.toNat = a.op := UInt8.ofNat_toNat ..
   have hwe : IntKind.u8.wrap a.e = a.e := wrap_u8 (by omega) (by omega)
   by_cases hz : a.e = 0
   · have hp := rput_c (l := [a.op, UInt8.ofNat a.e.toNat]) (a := a) ⟨h1, h4, by simp⟩
     have hbb : bytA a = [a.op, UInt8.ofNat a.e.toNat] ++ bodyAK (kA a.op) a := by unfold bytA bodyA; rw [if_pos hz]; rfl
     rw [hbb]
     have hzz : (a.e != 0) = false := by rw [hz]; rfl
     rw [aT_st, wT_st] at hm hp ⊢
     generalize bodyAK (kA a.op) a = B at *
     generalize pB (kA a.op) [a.op, UInt8.ofNat a.e.toNat] = PB at *
     repeat refine St (And.intro hm <| And.intro hn <| And.intro hof <| And.intro hwe <| And.intro hzz <| hp) ct22 ?_
     exact AWP.ret (Fin trivial [2] [])
   · have hbb : bytA a = [a.op, UInt8.ofNat a.e.toNat] := by unfold bytA bodyA; rw [if_neg hz]
     rw [hbb]
     have hzz : (a.e != 0) = true := by rw [bne_iff_ne]; exact hz
     rw [aT_st, wT_st] at hm ⊢
     repeat refine St (And.intro hm <| And.intro hn <| And.intro hof <| And.intro hwe <| hzz) ct22 ?_
     exact AWP.ret (Fin trivial [1] [])
theorem rpua_c {a : TA} (h : a.ents.length ≤ 1000000) : F22 [aT a] = some ([], .tup [.t (.by (putA a)), .t (.int .i64 (putAe a))]) := by
 simp only [F22, inv_of aT_inj]
 exact if_pos h
end Go.Fw

end
