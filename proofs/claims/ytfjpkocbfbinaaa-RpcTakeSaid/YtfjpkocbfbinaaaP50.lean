/- The abstract machine, and the contracts of the code: part 50. -/
import Derived.Test.YtfjpkocbfbinaaaP49
set_option linter.unusedVariables false
set_option linter.unusedSimpArgs false

section
namespace Go.Fw
open Go Go.Proofs
def hsf9 (l : List UInt8) (i : Nat) : List UInt8 := l.take i ++ List.replicate (32 - i) 0
theorem hsh_len {l : List UInt8} {i : Nat} (h : l.length = 32) (hi : i ≤ 32) : (hsf9 l i).length = 32 := by simp [hsf9]; omega
theorem hsh_set {l : List UInt8} {i : Nat} (h : l.length = 32) (hi : i < 32) : (hsf9 l i).set i (l.getD i 0) = hsf9 l (i + 1) := by
 unfold hsf9
 rw [show 32 - i = (32 - (i + 1)) + 1 by omega, List.replicate_succ, List.set_append_right _ _ (by simp; omega)]
 have e : i - (l.take i).length = 0 := by simp; omega
 rw [e, List.set_cons_zero, List.take_succ_eq_append_getElem (by omega), List.append_assoc]
 have : l.getD i 0 = l[i] := by simp [show i < l.length by omega]
 rw [this]; rfl
theorem hsh_0 (l : List UInt8) : hsf9 l 0 = zby 32 := rfl
theorem hsh_32 {l : List UInt8} (h : l.length = 32) : hsf9 l 32 = l := by unfold hsf9; rw [List.take_of_length_le (by omega)]; simp
def F53 : Fun
 | [.by l] => if l.length = 32 then some ([], .t (.ba 32 l)) else if l.length = 0 then some ([], .t (.ba 32 (zby 32))) else none
 | _ => none
theorem ct53 : CT [] [0, 2, 3, 4, 13] [] := ⟨GClOk.nil _⟩
theorem c53 : ACon Try.prog 53 F53 := by
 refine aconc E_ok (rs := [.cell 2 22]) Try.func53 rfl Try.ntmps53 (by kernel_rfl) rfl (by decide) F53 (np := 1) ?_ ?_
 · intro ts h; unfold F53; split <;> first | rfl | (simp at h; done)
 intro ts H r hF hwf
 unfold F53 at hF
 split at hF <;> try (cases hF; done)
 rename_i l
 split at hF
 · rename_i hl
   cases hF
   repeat refine St2 trivial ct53 ?_
   refine AWP.loop (G := { i : Nat // i ≤ 32 }) (fun i => ⟨[(0, .t (.by l)), (2, .ptr 0 0 []), (3, .ptr 1 0 []), (4, .t (.int .i64 (i.1 : Int)))], [.bx (.t (.ba 32 (zby 32))), .bx (.t (.ba 32 (hsf9 l i.1)))]⟩) (fun i => 32 - i.1) ⟨0, by omega⟩ (Wt @hsh_0 [0, 2, 3, 4] [0, 1]) ?_
   intro ⟨i, hi⟩
   dsimp only
   have hhl := hsh_len hl hi
   by_cases hlt : (i : Int) < (l.length : Int)
   · have hlt' : i < l.length := by omega
     have h32 : (i : Int) < 32 := by omega
     have h32' : i < 32 := by omega
     have hs := hsh_set hl h32'
     have hof : ∀ c : UInt8, UInt8.ofNat c.toNat = c := fun c => by simp
     repeat refine St2 (And.intro hlt <| And.intro hlt' <| And.intro h32 <| And.intro h32' <| And.intro hs <| And.intro hhl <| And.intro @u8.eq_def <| And.intro hof <| @T.size.eq_def) ct53 ?_
     exact ⟨⟨i + 1, by omega⟩, (Wt trivial [0, 2, 3, 4] [0, 1]), by simp only; omega⟩
   · have hend : hsf9 l i = l := by rw [show i = 32 by omega]; exact hsh_32 hl
     repeat refine St2 hlt ct53 ?_
     exact AWP.ret (Fin hend [] [])
 · split at hF
   · rename_i hl
     cases hF
     have hlt : ¬ (0 : Int) < (l.length : Int) := by omega
     repeat refine St2 trivial ct53 ?_
     refine AWP.loop (G := Unit) (fun i => ⟨[(0, .t (.by l)), (2, .ptr 0 0 []), (3, .ptr 1 0 []), (4, .t (.int .i64 0))], [.bx (.t (.ba 32 (zby 32))), .bx (.t (.ba 32 (zby 32)))]⟩) (fun i => 0) () (Wt trivial [0, 2, 3, 4] [0, 1]) ?_
     intro i
     repeat refine St2 hlt ct53 ?_
     exact AWP.ret (Fin trivial [] [])
   · cases hF
def askT : Nat → T
 | 1 => .ar 4 1 [.bool true, .bool false, .bool false, .bool false]
 | 2 => .ar 4 1 [.bool true, .bool true, .bool false, .bool false]
 | 3 => .ar 4 1 [.bool false, .bool false, .bool false, .bool true]
 | 4 => .ar 4 1 [.bool false, .bool true, .bool true, .bool false]
 | 5 => .ar 4 1 [.bool false, .bool false, .bool true, .bool false]
 | _ => .ar 4 1 [.bool false, .bool false, .bool false, .bool false]
def F27 : Fun
 | [.int .u8 n] => if 0 ≤ n ∧ n < 256 then some ([], .t (askT (kQ (UInt8.ofNat n.toNat)))) else none
 | _ => none
theorem ct27 : CT [] [0, 2, 3, 4, 8, 11, 15, 18] [] := ⟨GClOk.nil _⟩
theorem kQ_off (c : UInt8) : (c = 2 ∧ kQ c = 1) ∨ (c ≠ 2 ∧ c = 4 ∧ kQ c = 1) ∨ (c ≠ 2 ∧ c ≠ 4 ∧ c = 3 ∧ kQ c = 2) ∨ (c ≠ 2 ∧ c ≠ 4 ∧ c ≠ 3 ∧ c = 5 ∧ kQ c = 3) ∨ (c ≠ 2 ∧ c ≠ 4 ∧ c ≠ 3 ∧ c ≠ 5 ∧ c = 9 ∧ kQ c = 3) ∨ (c ≠ 2 ∧ c ≠ 4 ∧ c ≠ 3 ∧ c ≠ 5 ∧ c ≠ 9 ∧ c = 6 ∧ kQ c = 4) ∨ (c ≠ 2 ∧ c ≠ 4 ∧ c ≠ 3 ∧ c ≠ 5 ∧ c ≠ 9 ∧ c ≠ 6 ∧ c = 8 ∧ kQ c = 5) ∨ (c ≠ 2 ∧ c ≠ 4 ∧ c ≠ 3 ∧ c ≠ 5 ∧ c ≠ 9 ∧ c ≠ 6 ∧ c ≠ 8 ∧ kQ c = 0) := by
 by_cases h2 : c = 2
 · subst h2; exact .inl ⟨rfl, rfl⟩
 by_cases h4 : c = 4
 · subst h4; exact .inr (.inl ⟨h2, rfl, rfl⟩)
 by_cases h3 : c = 3
 · subst h3; exact .inr (.inr (.inl ⟨h2, h4, rfl, rfl⟩))
 by_cases h5 : c = 5
 · subst h5; exact .inr (.inr (.inr (.inl ⟨h2, h4, h3, rfl, rfl⟩)))
 by_cases h9 : c = 9
 · subst h9; exact .inr (.inr (.inr (.inr (.inl ⟨h2, h4, h3, h5, rfl, rfl⟩))))
 by_cases h6 : c = 6
 · subst h6; exact .inr (.inr (.inr (.inr (.inr (.inl ⟨h2, h4, h3, h5, h9, rfl, rfl⟩)))))
 by_cases h8 : c = 8
 · subst h8; exact .inr (.inr (.inr (.inr (.inr (.inr (.inl ⟨h2, h4, h3, h5, h9, h6, rfl, rfl⟩))))))
 exact .inr (.inr (.inr (.inr (.inr (.inr (.inr ⟨h2, h4, h3, h5, h9, h6, h8, by unfold kQ; simp [h2, h4, h3, h5, h9, h6, h8]⟩))))))
theorem d8_ne {c : UInt8} (n : UInt8) (h : c ≠ n) : ((c.toNat : Int) == (n.toNat : Int)) = false := by
 rw [beq_eq_false_iff_ne]; intro hh; exact h (n8_inj hh)
theorem d8_eq {c : UInt8} (n : UInt8) (h : c = n) : ((c.toNat : Int) == (n.toNat : Int)) = true := by rw [h]; exact beq_self_eq_true _
set_option maxHeartbeats 2000000 in
theorem c27 : ACon Try.prog 27 F27 := by
 refine aconc E_ok (rs := [.cell 2 86]) Try.func27 rfl Try.ntmps27 (by kernel_rfl) rfl (by decide) F27 (np := 1) ?_ ?_
 · intro ts h; unfold F27; split <;> first | rfl | (simp at h; done)
 intro ts H r hF hwf
 unfold F27 at hF
 split at hF <;> try (cases hF; done)
 rename_i z
 split at hF
 case isFalse => cases hF
 rename_i hc
 cases hF
 obtain ⟨c, rfl⟩ : ∃ c : UInt8, z = (c.toNat : Int) := ⟨UInt8.ofNat z.toNat, by rw [UInt8.toNat_ofNat']; omega⟩
 have hcc : UInt8.ofNat ((c.toNat : Int)).toNat = c := by rw [Int.toNat_natCast]; exact UInt8.ofNat_toNat ..
 rw [hcc]
 rcases kQ_off c with ⟨a2, hk⟩ | ⟨a2, a4, hk⟩ | ⟨a2, a4, a3, hk⟩ | ⟨a2, a4, a3, a5, hk⟩ | ⟨a2, a4, a3, a5, a9, hk⟩ | ⟨a2, a4, a3, a5, a9, a6, hk⟩ | ⟨a2, a4, a3, a5, a9, a6, a8, hk⟩ | ⟨a2, a4, a3, a5, a9, a6, a8, hk⟩
 · have d2 : ((c.toNat : Int) == 2) = true := d8_eq 2 a2
   rw [hk]
   repeat refine St2 d2 ct27 ?_
   exact AWP.ret (Fin @askT.eq_def [] [])
 · have d2 : ((c.toNat : Int) == 2) = false := d8_ne 2 a2
   have d4 : ((c.toNat : Int) == 4) = true := d8_eq 4 a4
   rw [hk]
   repeat refine St2 (And.intro d2 <| d4) ct27 ?_
   exact AWP.ret (Fin @askT.eq_def [] [])
 · have d2 : ((c.toNat : Int) == 2) = false := d8_ne 2 a2
   have d4 : ((c.toNat : Int) == 4) = false := d8_ne 4 a4
   have d3 : ((c.toNat : Int) == 3) = true := d8_eq 3 a3
   rw [hk]
   repeat refine St2 (And.intro d2 <| And.intro d4 <| d3) ct27 ?_
   exact AWP.ret (Fin @askT.eq_def [] [])
 · have d2 : ((c.toNat : Int) == 2) = false := d8_ne 2 a2
   have d4 : ((c.toNat : Int) == 4) = false := d8_ne 4 a4
   have d3 : ((c.toNat : Int) == 3) = false := d8_ne 3 a3
   have d5 : ((c.toNat : Int) == 5) = true := d8_eq 5 a5
   rw [hk]
   repeat refine St2 (And.intro d2 <| And.intro d4 <| And.intro d3 <| d5) ct27 ?_
   exact AWP.ret (Fin @askT.eq_def [] [])
 · have d2 : ((c.toNat : Int) == 2) = false := d8_ne 2 a2
   have d4 : ((c.toNat : Int) == 4) = false := d8_ne 4 a4
   have d3 : ((c.toNat : Int) == 3) = false := d8_ne 3 a3
   have d5 : ((c.toNat : Int) == 5) = false := d8_ne 5 a5
   have d9 : ((c.toNat : Int) == 9) = true := d8_eq 9 a9
   rw [hk]
   repeat refine St2 (And.intro d2 <| And.intro d4 <| And.intro d3 <| And.intro d5 <| d9) ct27 ?_
   exact AWP.ret (Fin @askT.eq_def [] [])
 · have d2 : ((c.toNat : Int) == 2) = false := d8_ne 2 a2
   have d4 : ((c.toNat : Int) == 4) = false := d8_ne 4 a4
   have d3 : ((c.toNat : Int) == 3) = false := d8_ne 3 a3
   have d5 : ((c.toNat : Int) == 5) = false := d8_ne 5 a5
   have d9 : ((c.toNat : Int) == 9) = false := d8_ne 9 a9
   have d6 : ((c.toNat : Int) == 6) = true := d8_eq 6 a6
   rw [hk]
   repeat refine St2 (And.intro d2 <| And.intro d4 <| And.intro d3 <| And.intro d5 <| And.intro d9 <| d6) ct27 ?_
   exact AWP.ret (Fin @askT.eq_def [] [])
 · have d2 : ((c.toNat : Int) == 2) = false := d8_ne 2 a2
   have d4 : ((c.toNat : Int) == 4) = false := d8_ne 4 a4
   have d3 : ((c.toNat : Int) == 3) = false := d8_ne 3 a3
   have d5 : ((c.toNat : Int) == 5) = false := d8_ne 5 a5
   have d9 : ((c.toNat : Int) == 9) = false := d8_ne 9 a9
   have d6 : ((c.toNat : Int) == 6) = false := d8_ne 6 a6
   have d8 : ((c.toNat : Int) == 8) = true := d8_eq 8 a8
   rw [hk]
   repeat refine St2 (And.intro d2 <| And.intro d4 <| And.intro d3 <| And.intro d5 <| And.intro d9 <| And.intro d6 <| d8) ct27 ?_
   exact AWP.ret (Fin @askT.eq_def [] [])
 · have d2 : ((c.toNat : Int) == 2) = false := d8_ne 2 a2
   have d4 : ((c.toNat : Int) == 4) = false := d8_ne 4 a4
   have d3 : ((c.toNat : Int) == 3) = false := d8_ne 3 a3
   have d5 : ((c.toNat : Int) == 5) = false := d8_ne 5 a5
   have d9 : ((c.toNat : Int) == 9) = false := d8_ne 9 a9
   have d6 : ((c.toNat : Int) == 6) = false := d8_ne 6 a6
   have d8 : ((c.toNat : Int) == 8) = false := d8_ne 8 a8
   rw [hk]
   repeat refine St2 (And.intro d2 <| And.intro d4 <| And.intro d3 <| And.intro d5 <| And.intro d9 <| And.intro d6 <| d8) ct27 ?_
   exact AWP.ret (Fin @askT.eq_def [] [])
theorem ask_c (c : UInt8) : F27 [.int .u8 (c.toNat : Int)] = some ([], .t (askT (kQ c))) := by
 have h0 := c.toNat_lt
 have hcc : UInt8.ofNat ((c.toNat : Int)).toNat = c := by rw [Int.toNat_natCast]; exact UInt8.ofNat_toNat ..
 simp only [F27]
 rw [if_pos ⟨by omega, by omega⟩, hcc]
theorem rnumA (b : List UInt8) (h : b.length ≤ 549755800000) : F51 [.by b, .int .i64 4] = some ([], .tup [.t (.int .u64 ((t32 b).1.toNat : Int)), .t (.by (t32 b).2.1), .t (.int .i64 (t32 b).2.2)]) := by
 rw [number_c b 4 (by omega) (by omega)]
 show _ = some (_, AV.tup [.t (.int .u64 ((UInt32.ofNat (num (spA b 4))).toNat : Int)), _, _])
 rw [u32_num _ (spA_le b 4 4 (by omega))]; rfl
theorem u8_num (l : List UInt8) (h : l.length ≤ 1) : ((UInt8.ofNat (num l)).toNat : Int) = (num l : Int) := by
 have := num_lt1 l h
 rw [UInt8.toNat_ofNat']; omega
theorem rnumB (b : List UInt8) (h : b.length ≤ 549755800000) : F51 [.by b, .int .i64 1] = some ([], .tup [.t (.int .u64 ((t8 b).1.toNat : Int)), .t (.by (t8 b).2.1), .t (.int .i64 (t8 b).2.2)]) := by
 rw [number_c b 1 (by omega) (by omega)]
 show _ = some (_, AV.tup [.t (.int .u64 ((UInt8.ofNat (num (spA b 1))).toNat : Int)), _, _])
 rw [u8_num _ (spA_le b 1 1 (by omega))]; rfl
theorem rnumC (b : List UInt8) (h : b.length ≤ 549755800000) : F51 [.by b, .int .i64 8] = some ([], .tup [.t (.int .u64 ((t64 b).1.toNat : Int)), .t (.by (t64 b).2.1), .t (.int .i64 (t64 b).2.2)]) := by
 rw [number_c b 8 (by omega) (by omega)]
 show _ = some (_, AV.tup [.t (.int .u64 ((UInt64.ofNat (num (spA b 8))).toNat : Int)), _, _])
 rw [u64_num _ (spA_le b 8 8 (by omega))]; rfl
abbrev lX (s : LSt) : Blk := .bx (.t (.st [.by s.b, .bool s.ok]))
def G30 : GFun
 | [.bx (.t (.st [.by b, .bool w]))], [.ptr 0 0 [], .t (.int .i64 4)] => if b.length ≤ 549755800000 then some ([lX (ld t32 ⟨b, w⟩).2], .t (.int .u64 ((ld t32 ⟨b, w⟩).1.toNat : Int))) else none
 | [.bx (.t (.st [.by b, .bool w]))], [.ptr 0 0 [], .t (.int .i64 1)] => if b.length ≤ 549755800000 then some ([lX (ld t8 ⟨b, w⟩).2], .t (.int .u64 ((ld t8 ⟨b, w⟩).1.toNat : Int))) else none
 | [.bx (.t (.st [.by b, .bool w]))], [.ptr 0 0 [], .t (.int .i64 8)] => if b.length ≤ 549755800000 then some ([lX (ld t64 ⟨b, w⟩).2], .t (.int .u64 ((ld t64 ⟨b, w⟩).1.toNat : Int))) else none
 | _, _ => none
theorem ct30 : CT [(51, ⟨[false, false], treeG F51⟩)] [0, 1, 4, 5, 6, 7] [] := ⟨(.cons c51.g (.nil _))⟩
set_option maxHeartbeats 1000000 in
theorem g30 : GCon Try.prog 30 G30 := by
 refine gconc E_ok (rs := [.tmp 4 40]) Try.func30 rfl Try.ntmps30 (by kernel_rfl) rfl (by decide) G30 (np := 2) ?_ ?_
 · intro HB xs h; unfold G30; split <;> first | rfl | (simp at h; done)
 intro HB xs H r hG hwf hex
 unfold G30 at hG
 split at hG <;> try (cases hG; done)
 · rename_i b w
   split at hG
   case isFalse => cases hG
   rename_i hb
   cases hG
   have h1 := rnumA b hb
   unfold ld
   dsimp only
   generalize t32 b = R at *
   obtain ⟨x, r, e⟩ := R
   dsimp only at h1 ⊢
   cases w with
   | false =>
     repeat refine St2 (And.intro (And.intro @gentry.eq_1 <| @gentry.eq_2) <| h1) ct30 ?_
     exact AWP.ret (Fin trivial [] [0])
   | true =>
     by_cases he : e = 0
     · subst he
       repeat refine St2 (And.intro (And.intro @gentry.eq_1 <| @gentry.eq_2) <| h1) ct30 ?_
       exact AWP.ret (Fin trivial [] [0])
     · have h2 : (e == 0) = false := by simpa using he
       have h3 : decide (e = 0) = false := decide_eq_false he
       rw [h3]
       repeat refine St2 (And.intro (And.intro @gentry.eq_1 <| @gentry.eq_2) <| And.intro h1 <| h2) ct30 ?_
       exact AWP.ret (Fin trivial [] [0])
 · rename_i b w
   split at hG
   case isFalse => cases hG
   rename_i hb
   cases hG
   have h1 := rnumB b hb
   unfold ld
   dsimp only
   generalize t8 b = R at *
   obtain ⟨x, r, e⟩ := R
   dsimp only at h1 ⊢
   cases w with
   | false =>
     repeat refine St2 (And.intro (And.intro @gentry.eq_1 <| @gentry.eq_2) <| h1) ct30 ?_
     exact AWP.ret (Fin trivial [] [0])
   | true =>
     by_cases he : e = 0
     · subst he
       repeat refine St2 (And.intro (And.intro @gentry.eq_1 <| @gentry.eq_2) <| h1) ct30 ?_
       exact AWP.ret (Fin trivial [] [0])
     · have h2 : (e == 0) = false := by simpa using he
       have h3 : decide (e = 0) = false := decide_eq_false he
       rw [h3]
       repeat refine St2 (And.intro (And.intro @gentry.eq_1 <| @gentry.eq_2) <| And.intro h1 <| h2) ct30 ?_
       exact AWP.ret (Fin trivial [] [0])
 · rename_i b w
   split at hG
   case isFalse => cases hG
   rename_i hb
   cases hG
   have h1 := rnumC b hb
   unfold ld
   dsimp only
   generalize t64 b = R at *
   obtain ⟨x, r, e⟩ := R
   dsimp only at h1 ⊢
   cases w with
   | false =>
     repeat refine St2 (And.intro (And.intro @gentry.eq_1 <| @gentry.eq_2) <| h1) ct30 ?_
     exact AWP.ret (Fin trivial [] [0])
   | true =>
     by_cases he : e = 0
     · subst he
       repeat refine St2 (And.intro (And.intro @gentry.eq_1 <| @gentry.eq_2) <| h1) ct30 ?_
       exact AWP.ret (Fin trivial [] [0])
     · have h2 : (e == 0) = false := by simpa using he
       have h3 : decide (e = 0) = false := decide_eq_false he
       rw [h3]
       repeat refine St2 (And.intro (And.intro @gentry.eq_1 <| @gentry.eq_2) <| And.intro h1 <| h2) ct30 ?_
       exact AWP.ret (Fin trivial [] [0])
theorem rtakA (b : List UInt8) (h : b.length ≤ 549755800000) : F52 [.by b, .int .i64 32] = some ([], .tup [.t (.by (spA b 32)), .t (.by (spB b 32)), .t (.int .i64 (spE b 32))]) := if_pos (by omega)
theorem rtakC (b : List UInt8) (m : Int) (h : b.length ≤ 549755800000) : F54 [.by b, .int .i64 m] = some ([], .tup [.t (.by (lim b m).1), .t (.by (lim b m).2.1), .t (.int .i64 (lim b m).2.2)]) := if_pos (by omega)
theorem rtakB (b : List UInt8) (h : b.length ≤ 549755800000) : F54 [.by b, .int .i64 40000] = some ([], .tup [.t (.by (tBts b).1), .t (.by (tBts b).2.1), .t (.int .i64 (tBts b).2.2)]) := rtakC b 40000 h
def G31 : GFun
 | [.bx (.t (.st [.by b, .bool w]))], [.ptr 0 0 []] => if b.length ≤ 549755800000 then some ([lX (ld tH ⟨b, w⟩).2], .t (.ba 32 (ld tH ⟨b, w⟩).1.1)) else none
 | _, _ => none
theorem ct31 : CT [(52, ⟨[false, false], treeG F52⟩), (53, ⟨[false], treeG F53⟩)] [0, 2, 3, 4, 5] [] := ⟨(.cons c52.g (.cons c53.g (.nil _)))⟩
set_option maxHeartbeats 1000000 in
theorem g31 : GCon Try.prog 31 G31 := by
 refine gconc E_ok (rs := [.cell 2 22]) Try.func31 rfl Try.ntmps31 (by kernel_rfl) rfl (by decide) G31 (np := 1) ?_ ?_
 · intro HB xs h; unfold G31; split <;> first | rfl | (simp at h; done)
 intro HB xs H r hG hwf hex
 unfold G31 at hG
 split at hG <;> try (cases hG; done)
 rename_i b w
 split at hG
 case isFalse => cases hG
 rename_i hb
 cases hG
 have h1 := rtakA b hb
 have hh : F53 [.by (spA b 32)] = some ([], .t (.ba 32 (tH b).1.1)) := by
   by_cases hx : spE b 32 = 0
   · obtain ⟨q1, q2, q3⟩ := sp_ok hx
     have hl : (spA b 32).length = 32 := by omega
     have ho : (tH b).1.1 = spA b 32 := hOf_val hl
     rw [ho]; exact if_pos hl
   · have ho : (tH b).1 = hOf (spA b 32) := rfl
     rw [ho, (sp_bad hx).1]
     rfl
 have h32 := (tH b).1.2
 have e1 : (tH b).2.1 = spB b 32 := rfl
 have e2 : (tH b).2.2 = spE b 32 := rfl
 unfold ld
 dsimp only
 rw [e1, e2]
 generalize (tH b).1.1 = y at *
 generalize spA b 32 = x at *
 generalize spB b 32 = r at *
 generalize spE b 32 = e at *
 cases w with
 | false =>
   repeat refine St2 (And.intro (And.intro @gentry.eq_1 <| @gentry.eq_2) <| And.intro h1 <| And.intro hh <| h32) ct31 ?_
   exact AWP.ret (Fin trivial [] [0])
 | true =>
   by_cases he : e = 0
   · subst he
     repeat refine St2 (And.intro (And.intro @gentry.eq_1 <| @gentry.eq_2) <| And.intro h1 <| And.intro hh <| h32) ct31 ?_
     exact AWP.ret (Fin trivial [] [0])
   · have h2 : (e == 0) = false := by simpa using he
     have h3 : decide (e = 0) = false := decide_eq_false he
     rw [h3]
     repeat refine St2 (And.intro (And.intro @gentry.eq_1 <| @gentry.eq_2) <| And.intro h1 <| And.intro h2 <| And.intro hh <| h32) ct31 ?_
     exact AWP.ret (Fin trivial [] [0])
def G32 : GFun
 | [.bx (.t (.st [.by b, .bool w]))], [.ptr 0 0 []] => if b.length ≤ 549755800000 then some ([lX (ld tBts ⟨b, w⟩).2], .t (.by (ld tBts ⟨b, w⟩).1)) else none
 | _, _ => none
theorem ct32 : CT [(54, ⟨[false, false], treeG F54⟩)] [0, 2, 3, 4, 5] [] := ⟨(.cons c54.g (.nil _))⟩
set_option maxHeartbeats 1000000 in
theorem g32 : GCon Try.prog 32 G32 := by
 refine gconc E_ok (rs := [.tmp 2 24]) Try.func32 rfl Try.ntmps32 (by kernel_rfl) rfl (by decide) G32 (np := 1) ?_ ?_
 · intro HB xs h; unfold G32; split <;> first | rfl | (simp at h; done)
 intro HB xs H r hG hwf hex
 unfold G32 at hG
 split at hG <;> try (cases hG; done)
 rename_i b w
 split at hG
 case isFalse => cases hG
 rename_i hb
 cases hG
 have h1 := rtakB b hb
 unfold ld
 dsimp only
 generalize tBts b = R at *
 obtain ⟨x, r, e⟩ := R
 dsimp only at h1 ⊢
 cases w with
 | false =>
   repeat refine St2 (And.intro (And.intro @gentry.eq_1 <| @gentry.eq_2) <| h1) ct32 ?_
   exact AWP.ret (Fin trivial [] [0])
 | true =>
   by_cases he : e = 0
   · subst he
     repeat refine St2 (And.intro (And.intro @gentry.eq_1 <| @gentry.eq_2) <| h1) ct32 ?_
     exact AWP.ret (Fin trivial [] [0])
   · have h2 : (e == 0) = false := by simpa using he
     have h3 : decide (e = 0) = false := decide_eq_false he
     rw [h3]
     repeat refine St2 (And.intro (And.intro @gentry.eq_1 <| @gentry.eq_2) <| And.intro h1 <| h2) ct32 ?_
     exact AWP.ret (Fin trivial [] [0])
end Go.Fw

end

section
namespace Go.Fw
open Go Go.Proofs
theorem num8_t {b : List UInt8} {w : Bool} (h : b.length ≤ 549755800000) : G30 [.bx (.t (.st [.by b, .bool w]))] [.ptr 0 0 [], .t (.int .i64 1)] = some ([lX (ld t8 ⟨b, w⟩).2], .t (.int .u64 ((ld t8 ⟨b, w⟩).1.toNat : Int))) := if_pos h
theorem num32_t {b : List UInt8} {w : Bool} (h : b.length ≤ 549755800000) : G30 [.bx (.t (.st [.by b, .bool w]))] [.ptr 0 0 [], .t (.int .i64 4)] = some ([lX (ld t32 ⟨b, w⟩).2], .t (.int .u64 ((ld t32 ⟨b, w⟩).1.toNat : Int))) := if_pos h
theorem nam_t {b : List UInt8} {w : Bool} (h : b.length ≤ 549755800000) : G31 [.bx (.t (.st [.by b, .bool w]))] [.ptr 0 0 []] = some ([lX (ld tH ⟨b, w⟩).2], .t (.ba 32 (ld tH ⟨b, w⟩).1.1)) := if_pos h
theorem str_t {b : List UInt8} {w : Bool} (h : b.length ≤ 549755800000) : G32 [.bx (.t (.st [.by b, .bool w]))] [.ptr 0 0 []] = some ([lX (ld tBts ⟨b, w⟩).2], .t (.by (ld tBts ⟨b, w⟩).1)) := if_pos h
theorem t8_len (b : List UInt8) : (t8 b).2.1.length ≤ b.length := spB_len b 1
theorem tBts_len (b : List UInt8) : (tBts b).2.1.length ≤ b.length := (lim_len b 40000).2
theorem ld_len {α : Type} {t : List UInt8 → α × List UInt8 × Int} {s : LSt} (h : ∀ b, (t b).2.1.length ≤ b.length) : (ld t s).2.b.length ≤ s.b.length := h s.b
theorem rtszA (b : List UInt8) (h : b.length ≤ 549755800000) : F79 [.by b] = some ([], .tup [.t (.int .u64 ((sz b).1 : Nat)), .t (.by (sz b).2.1), .t (.int .i64 (sz b).2.2)]) := if_pos (by omega)
theorem ldC_len {m : Nat} {s : LSt} : (ldC m s).2.b.length ≤ s.b.length := sz_len s.b
theorem ldC_le {m : Nat} {s : LSt} : (ldC m s).1 ≤ m := by
 unfold ldC
 dsimp only
 split
 · rename_i h
   simp only [Bool.and_eq_true, decide_eq_true_eq] at h
   exact h.2
 · exact Nat.zero_le _
theorem ldC_no {m : Nat} {b : List UInt8} : ldC m ⟨b, false⟩ = (0, ⟨(sz b).2.1, false⟩) := by unfold ldC; simp
theorem ldC_e {m : Nat} {b : List UInt8} (h : (sz b).2.2 ≠ 0) : ldC m ⟨b, true⟩ = (0, ⟨(sz b).2.1, false⟩) := by unfold ldC; simp [h]
theorem ldC_big {m : Nat} {b : List UInt8} (h : (sz b).2.2 = 0) (h2 : ¬ (sz b).1 ≤ m) : ldC m ⟨b, true⟩ = (0, ⟨(sz b).2.1, false⟩) := by unfold ldC; simp [h, h2]
theorem ldC_ok {m : Nat} {b : List UInt8} (h : (sz b).2.2 = 0) (h2 : (sz b).1 ≤ m) : ldC m ⟨b, true⟩ = ((sz b).1, ⟨(sz b).2.1, true⟩) := by unfold ldC; simp [h, h2]
def G56 : GFun
 | [.bx (.t (.st [.by b, .bool w]))], [.ptr 0 0 [], .t (.int .i64 200)] => if b.length ≤ 549755800000 then some ([lX (ldC 200 ⟨b, w⟩).2], .t (.int .i64 ((ldC 200 ⟨b, w⟩).1 : Nat))) else none
 | [.bx (.t (.st [.by b, .bool w]))], [.ptr 0 0 [], .t (.int .i64 100)] => if b.length ≤ 549755800000 then some ([lX (ldC 100 ⟨b, w⟩).2], .t (.int .i64 ((ldC 100 ⟨b, w⟩).1 : Nat))) else none
 | _, _ => none
theorem ct56 : CT [(79, ⟨[false], treeG F79⟩)] [0, 1, 4, 5, 6, 7, 42] [] := ⟨(.cons c79.g (.nil _))⟩
set_option maxHeartbeats 1000000 in
theorem g56 : GCon Try.prog 56 G56 := by
 refine gconc E_ok (rs := [.tmp 4 3]) Try.func56 rfl Try.ntmps56 (by kernel_rfl) rfl (by decide) G56 (np := 2) ?_ ?_
 · intro HB xs h; unfold G56; split <;> first | rfl | (simp at h; done)
 intro HB xs H r hG hwf hex
 unfold G56 at hG
 split at hG <;> try (cases hG; done)
 · rename_i b w
   split at hG
   case isFalse => cases hG
   rename_i hb
   cases hG
   have h1 := rtszA b hb
   have hl := sz_lt b
   have hz : (((0 : Nat) : Nat) : Int) = 0 := rfl
   have hu : IntKind.u64.wrap 200 = 200 := wrap_u64 (by omega) (by omega)
   cases w with
   | false =>
     rw [ldC_no]
     generalize sz b = Z at *
     obtain ⟨n, r, e⟩ := Z
     repeat refine St (And.intro (And.intro @gentry.eq_1 <| @gentry.eq_2) <| And.intro h1 <| hu) ct56 ?_
     exact AWP.ret (Fin hz [] [0])
   | true =>
     by_cases he : (sz b).2.2 = 0
     · by_cases hn : (sz b).1 ≤ 200
       · rw [ldC_ok he hn]
         generalize sz b = Z at *
         obtain ⟨n, r, e⟩ := Z
         dsimp only at h1 he hn hl ⊢
         subst he
         have hn2 : (n : Int) ≤ 200 := by omega
         have hw : IntKind.i64.wrap (n : Int) = (n : Int) := wrap_i64 (by omega) (by omega)
         repeat refine St (And.intro (And.intro @gentry.eq_1 <| @gentry.eq_2) <| And.intro h1 <| And.intro hu <| And.intro hn2 <| hw) ct56 ?_
         exact AWP.ret (Fin trivial [] [0])
       · rw [ldC_big he hn]
         generalize sz b = Z at *
         obtain ⟨n, r, e⟩ := Z
         dsimp only at h1 he hn hl ⊢
         subst he
         have hn2 : ¬ (n : Int) ≤ 200 := by omega
         repeat refine St (And.intro (And.intro @gentry.eq_1 <| @gentry.eq_2) <| And.intro h1 <| And.intro hu <| hn2) ct56 ?_
         exact AWP.ret (Fin hz [] [0])
     · rw [ldC_e he]
       generalize sz b = Z at *
       obtain ⟨n, r, e⟩ := Z
       dsimp only at h1 he hl ⊢
       have h2 : (e == 0) = false := by simpa using he
       repeat refine St (And.intro (And.intro @gentry.eq_1 <| @gentry.eq_2) <| And.intro h1 <| And.intro hu <| h2) ct56 ?_
       exact AWP.ret (Fin hz [] [0])
 · rename_i b w
   split at hG
   case isFalse => cases hG
   rename_i hb
   cases hG
   have h1 := rtszA b hb
   have hl := sz_lt b
   have hz : (((0 : Nat) : Nat) : Int) = 0 := rfl
   have hu : IntKind.u64.wrap 100 = 100 := wrap_u64 (by omega) (by omega)
   cases w with
   | false =>
     rw [ldC_no]
     generalize sz b = Z at *
     obtain ⟨n, r, e⟩ := Z
     repeat refine St (And.intro (And.intro @gentry.eq_1 <| @gentry.eq_2) <| And.intro h1 <| hu) ct56 ?_
     exact AWP.ret (Fin hz [] [0])
   | true =>
     by_cases he : (sz b).2.2 = 0
     · by_cases hn : (sz b).1 ≤ 100
       · rw [ldC_ok he hn]
         generalize sz b = Z at *
         obtain ⟨n, r, e⟩ := Z
         dsimp only at h1 he hn hl ⊢
         subst he
         have hn2 : (n : Int) ≤ 100 := by omega
         have hw : IntKind.i64.wrap (n : Int) = (n : Int) := wrap_i64 (by omega) (by omega)
         repeat refine St (And.intro (And.intro @gentry.eq_1 <| @gentry.eq_2) <| And.intro h1 <| And.intro hu <| And.intro hn2 <| hw) ct56 ?_
         exact AWP.ret (Fin trivial [] [0])
       · rw [ldC_big he hn]
         generalize sz b = Z at *
         obtain ⟨n, r, e⟩ := Z
         dsimp only at h1 he hn hl ⊢
         subst he
         have hn2 : ¬ (n : Int) ≤ 100 := by omega
         repeat refine St (And.intro (And.intro @gentry.eq_1 <| @gentry.eq_2) <| And.intro h1 <| And.intro hu <| hn2) ct56 ?_
         exact AWP.ret (Fin hz [] [0])
     · rw [ldC_e he]
       generalize sz b = Z at *
       obtain ⟨n, r, e⟩ := Z
       dsimp only at h1 he hl ⊢
       have h2 : (e == 0) = false := by simpa using he
       repeat refine St (And.intro (And.intro @gentry.eq_1 <| @gentry.eq_2) <| And.intro h1 <| And.intro hu <| h2) ct56 ?_
       exact AWP.ret (Fin hz [] [0])
theorem siz200_t {b : List UInt8} {w : Bool} (h : b.length ≤ 549755800000) : G56 [.bx (.t (.st [.by b, .bool w]))] [.ptr 0 0 [], .t (.int .i64 200)] = some ([lX (ldC 200 ⟨b, w⟩).2], .t (.int .i64 ((ldC 200 ⟨b, w⟩).1 : Nat))) := if_pos h
theorem siz100_t {b : List UInt8} {w : Bool} (h : b.length ≤ 549755800000) : G56 [.bx (.t (.st [.by b, .bool w]))] [.ptr 0 0 [], .t (.int .i64 100)] = some ([lX (ldC 100 ⟨b, w⟩).2], .t (.int .i64 ((ldC 100 ⟨b, w⟩).1 : Nat))) := if_pos h
theorem num64_t {b : List UInt8} {w : Bool} (h : b.length ≤ 549755800000) : G30 [.bx (.t (.st [.by b, .bool w]))] [.ptr 0 0 [], .t (.int .i64 8)] = some ([lX (ld t64 ⟨b, w⟩).2], .t (.int .u64 ((ld t64 ⟨b, w⟩).1.toNat : Int))) := if_pos h
theorem ldN_leng {α : Type} {f : LSt → α × LSt} (hf : ∀ s, (f s).2.b.length ≤ s.b.length) : ∀ (n : Nat) (s : LSt), (ldN f n s).2.b.length ≤ s.b.length
 | 0, s => Nat.le_refl _
 | n + 1, s => Nat.le_trans (ldN_leng hf n (f s).2) (hf s)
def ansV (a : TA) (E N : AV) : AV := .st [.t (.int .u8 (a.op.toNat : Int)), .t (.int .i64 a.e), .t (.ba 32 a.name.1), .t (.int .u32 (a.hgt.toNat : Int)), .t (wT a.work), .t (.int .u64 (a.val.toNat : Int)), .t (.bool a.fst), .t (.by a.bts), E, .t (.ar 5 1 (a.nums.1.map nT)), N]
def bareX (op : UInt8) : AV := .st [.t (.int .u8 (op.toNat : Int)), .t (.int .i64 0), .t (.ba 32 (zby 32)), .t (.int .u32 0), .t (.ar 4 1 [.int .u64 0, .int .u64 0, .int .u64 0, .int .u64 0]), .t (.int .u64 0), .t (.bool false), .t (.by []), .own 1, .t (.ar 5 1 [.int .u32 0, .int .u32 0, .int .u32 0, .int .u32 0, .int .u32 0]), .own 2]
theorem bareX_inj (a b : UInt8) (h : bareX a = bareX b) : a = b := by
 unfold bareX at h
 simp only [AV.st.injEq, List.cons.injEq, AV.t.injEq, T.int.injEq, true_and, and_true] at h
 exact n8_inj h
def takeR (k : Nat) (R : TA × LSt) : Option (List Blk × AV) :=
 if k = 5 ∧ R.1.ents ≠ [] then some ([lX R.2, .no, .sq 32 [], .sq 69 (R.1.ents.map eT)], ansV R.1 (.own 3) (.own 2))
 else if k = 8 ∧ R.1.nams ≠ [] then some ([lX R.2, .sq 69 [], .no, .sq 32 (R.1.nams.map hT)], ansV R.1 (.own 1) (.own 3))
 else some ([lX R.2, .sq 69 [], .sq 32 []], ansV R.1 (.own 1) (.own 2))
theorem takeR_0 {k : Nat} {R : TA × LSt} (h5 : k ≠ 5) (h8 : k ≠ 8) : takeR k R = some ([lX R.2, .sq 69 [], .sq 32 []], ansV R.1 (.own 1) (.own 2)) := (if_neg (fun h => h5 h.1)).trans (if_neg (fun h => h8 h.1))
theorem takeR_5 {R : TA × LSt} (h : R.1.ents ≠ []) : takeR 5 R = some ([lX R.2, .no, .sq 32 [], .sq 69 (R.1.ents.map eT)], ansV R.1 (.own 3) (.own 2)) := if_pos ⟨rfl, h⟩
theorem takeR_8 {R : TA × LSt} (h : R.1.nams ≠ []) : takeR 8 R = some ([lX R.2, .sq 69 [], .no, .sq 32 (R.1.nams.map hT)], ansV R.1 (.own 1) (.own 3)) := (if_neg (fun h => absurd h.1 (by decide))).trans (if_pos ⟨rfl, h⟩)
theorem takeR_50 {R : TA × LSt} (h : R.1.ents = []) : takeR 5 R = some ([lX R.2, .sq 69 [], .sq 32 []], ansV R.1 (.own 1) (.own 2)) := (if_neg (fun k => k.2 h)).trans (if_neg (fun h => absurd h.1 (by decide)))
theorem takeR_80 {R : TA × LSt} (h : R.1.nams = []) : takeR 8 R = some ([lX R.2, .sq 69 [], .sq 32 []], ansV R.1 (.own 1) (.own 2)) := (if_neg (fun h => absurd h.1 (by decide))).trans (if_neg (fun k => k.2 h))
theorem get5 (l : List UInt32) {i : Nat} (h : i < l.length) : (l.map nT).getD i default = .int .u32 ((l.getD i 0).toNat : Int) := by simp [h, nT]
theorem rep5 : (List.replicate 5 (0 : UInt32)).map nT = [.int .u32 0, .int .u32 0, .int .u32 0, .int .u32 0, .int .u32 0] := rfl
theorem set5 (X : List UInt32) (g : UInt32) {i : Nat} (h : X.length = i) (hi : i < 5) : ((X ++ List.replicate (5 - i) 0).map nT).set i (.int .u32 (g.toNat : Int)) = ((X ++ [g]) ++ List.replicate (5 - (i + 1)) 0).map nT := by
 subst h
 rw [show 5 - X.length = (5 - (X.length + 1)) + 1 by omega, List.replicate_succ, List.map_append, List.set_append_right _ _ (by simp)]
 simp [nT]
noncomputable def G34 : GFun
 | [.bx (.t (.st [.by b, .bool w])), .sq 69 [], .sq 32 []], [.ptr 0 0 [], v] => match inv bareX v with
   | some c => if b.length ≤ 549755800000 then takeR (kA c) (ldAK c (kA c) ⟨b, w⟩) else none
   | none => none
 | _, _ => none
theorem ct34 : CT [(30, ⟨[true, false], G30⟩), (31, ⟨[true], G31⟩), (32, ⟨[true], G32⟩), (55, ⟨[false], treeG F55⟩), (56, ⟨[true, false], G56⟩)] [0, 1, 3, 4, 5, 6, 7, 8, 9, 10, 11, 13, 14, 27, 34, 50, 58, 64, 101, 104, 113, 118, 124] [] := ⟨(.cons g30 (.cons g31 (.cons g32 (.cons c55.g (.cons g56 (.nil _))))))⟩
set_option maxRecDepth 20000 in
set_option maxHeartbeats 8000000 in
theorem g34 : GCon Try.prog 34 G34 := by
 refine gconc E_ok (rs := [.cell 4 52]) Try.func34 rfl Try.ntmps34 (by kernel_rfl) rfl (by decide) G34 (np := 2) ?_ ?_
 · intro HB xs h; unfold G34; split <;> first | rfl | (simp at h; done)
 intro HB xs H r hG hwf hex
 unfold G34 at hG
 split at hG <;> try (cases hG; done)
 rename_i b w v
 split at hG <;> try (cases hG; done)
 rename_i c hc
 split at hG
 case isFalse => cases hG
 rename_i hb
 obtain rfl := inv_inv hc
 clear hc
 unfold bareX
 have w32 : ∀ x : UInt32, IntKind.u32.wrap (x.toNat : Int) = (x.toNat : Int) := fun x => wrap_u32 (by omega) (by have := x.toNat_lt; omega)
 have wi32 : ∀ x : UInt32, IntKind.i64.wrap (x.toNat : Int) = (x.toNat : Int) := fun x => wrap_i64 (by omega) (by have := x.toNat_lt; omega)
 rcases kA_of c with ⟨a1, hk⟩ | ⟨a1, a2, hk⟩ | ⟨a1, a2, a5, hk⟩ | ⟨a1, a2, a5, a9, hk⟩ | ⟨a1, a2, a5, a9, a3, hk⟩ | ⟨a1, a2, a5, a9, a3, a4, hk⟩ | ⟨a1, a2, a5, a9, a3, a4, a6, hk⟩ | ⟨a1, a2, a5, a9, a3, a4, a6, a7, hk⟩ | ⟨a1, a2, a5, a9, a3, a4, a6, a7, a8, hk⟩ | ⟨a1, a2, a5, a9, a3, a4, a6, a7, a8, a10, hk⟩ | ⟨a1, a2, a5, a9, a3, a4, a6, a7, a8, a10, hk⟩
 · rw [hk] at hG
   simp only [ldAK] at hG
   have d1 : ((c.toNat : Int) == 1) = true := c8_eq 1 a1
   have n1 := nam_t (b := b) (w := w) (by omega)
   have l1 := ld_len (s := ⟨b, w⟩) tH_len
   generalize ld tH ⟨b, w⟩ = R1 at *
   obtain ⟨n, ⟨b1, w1⟩⟩ := R1
   dsimp only at n1 l1 hG
   have n2 := num32_t (b := b1) (w := w1) (by omega)
   have l2 := ld_len (s := ⟨b1, w1⟩) t32_len
   generalize ld t32 ⟨b1, w1⟩ = R2 at *
   obtain ⟨g, ⟨b2, w2⟩⟩ := R2
   dsimp only at n2 l2 hG
   have n3 := nam_t (b := b2) (w := w2) (by omega)
   have l3 := ld_len (s := ⟨b2, w2⟩) tH_len
   generalize ld tH ⟨b2, w2⟩ = R3 at *
   obtain ⟨h, ⟨b3, w3⟩⟩ := R3
   dsimp only at n3 l3 hG
   have hn := n.2
   have hh := h.2
   have hr := rwread_c h
   rw [wT_st] at hr
   generalize wR h = w at *
   rw [takeR_0 (by decide) (by decide)] at hG
   cases hG
   rw [show ansV ⟨c, 0, n, g, w, 0, false, [], [], zN, []⟩ (.own 1) (.own 2) = .st [.t (.int .u8 (c.toNat : Int)), .t (.int .i64 0), .t (.ba 32 n.1), .t (.int .u32 (g.toNat : Int)), .t (.ar 4 1 [.int .u64 (w.a.toNat : Int), .int .u64 (w.b.toNat : Int), .int .u64 (w.c.toNat : Int), .int .u64 (w.d.toNat : Int)]), .t (.int .u64 0), .t (.bool false), .t (.by []), .own 1, .t (.ar 5 1 [.int .u32 0, .int .u32 0, .int .u32 0, .int .u32 0, .int .u32 0]), .own 2] from rfl]
   repeat refine St (And.intro (And.intro @gentry.eq_1 <| @gentry.eq_2) <| And.intro d1 <| And.intro n1 <| And.intro n2 <| And.intro n3 <| And.intro hn <| And.intro hh <| And.intro hr <| w32) ct34 ?_
   exact AWP.ret (Fin trivial [] [0, 1, 2])
 · rw [hk] at hG
   simp only [ldAK] at hG
   have d1 : ((c.toNat : Int) == 1) = false := c8_ne 1 a1
   have d2 : ((c.toNat : Int) == 2) = true := c8_eq 2 a2
   have n1 := str_t (b := b) (w := w) (by omega)
   have l1 := ld_len (s := ⟨b, w⟩) tBts_len
   generalize ld tBts ⟨b, w⟩ = R1 at *
   obtain ⟨x, ⟨b1, w1⟩⟩ := R1
   dsimp only at n1 l1 hG
   rw [takeR_0 (by decide) (by decide)] at hG
   cases hG
   rw [show ansV ⟨c, 0, zH, 0, zW, 0, false, x, [], zN, []⟩ (.own 1) (.own 2) = .st [.t (.int .u8 (c.toNat : Int)), .t (.int .i64 0), .t (.ba 32 (zby 32)), .t (.int .u32 0), .t (.ar 4 1 [.int .u64 0, .int .u64 0, .int .u64 0, .int .u64 0]), .t (.int .u64 0), .t (.bool false), .t (.by x), .own 1, .t (.ar 5 1 [.int .u32 0, .int .u32 0, .int .u32 0, .int .u32 0, .int .u32 0]), .own 2] from rfl]
   repeat refine St (And.intro (And.intro @gentry.eq_1 <| @gentry.eq_2) <| And.intro d1 <| And.intro d2 <| n1) ct34 ?_
   exact AWP.ret (Fin trivial [] [0, 1, 2])
 · rw [hk] at hG
   simp only [ldAK] at hG
   have d1 : ((c.toNat : Int) == 1) = false := c8_ne 1 a1
   have d2 : ((c.toNat : Int) == 2) = false := c8_ne 2 a2
   have d5 : ((c.toNat : Int) == 5) = true := c8_eq 5 a5
   have n1 := str_t (b := b) (w := w) (by omega)
   have l1 := ld_len (s := ⟨b, w⟩) tBts_len
   generalize ld tBts ⟨b, w⟩ = R1 at *
   obtain ⟨x, ⟨b1, w1⟩⟩ := R1
   dsimp only at n1 l1 hG
   rw [takeR_0 (by decide) (by decide)] at hG
   cases hG
   rw [show ansV ⟨c, 0, zH, 0, zW, 0, false, x, [], zN, []⟩ (.own 1) (.own 2) = .st [.t (.int .u8 (c.toNat : Int)), .t (.int .i64 0), .t (.ba 32 (zby 32)), .t (.int .u32 0), .t (.ar 4 1 [.int .u64 0, .int .u64 0, .int .u64 0, .int .u64 0]), .t (.int .u64 0), .t (.bool false), .t (.by x), .own 1, .t (.ar 5 1 [.int .u32 0, .int .u32 0, .int .u32 0, .int .u32 0, .int .u32 0]), .own 2] from rfl]
   repeat refine St (And.intro (And.intro @gentry.eq_1 <| @gentry.eq_2) <| And.intro d1 <| And.intro d2 <| And.intro d5 <| n1) ct34 ?_
   exact AWP.ret (Fin trivial [] [0, 1, 2])
 · rw [hk] at hG
   simp only [ldAK] at hG
   have d1 : ((c.toNat : Int) == 1) = false := c8_ne 1 a1
   have d2 : ((c.toNat : Int) == 2) = false := c8_ne 2 a2
   have d5 : ((c.toNat : Int) == 5) = false := c8_ne 5 a5
   have d9 : ((c.toNat : Int) == 9) = true := c8_eq 9 a9
   have n1 := str_t (b := b) (w := w) (by omega)
   have l1 := ld_len (s := ⟨b, w⟩) tBts_len
   generalize ld tBts ⟨b, w⟩ = R1 at *
   obtain ⟨x, ⟨b1, w1⟩⟩ := R1
   dsimp only at n1 l1 hG
   rw [takeR_0 (by decide) (by decide)] at hG
   cases hG
   rw [show ansV ⟨c, 0, zH, 0, zW, 0, false, x, [], zN, []⟩ (.own 1) (.own 2) = .st [.t (.int .u8 (c.toNat : Int)), .t (.int .i64 0), .t (.ba 32 (zby 32)), .t (.int .u32 0), .t (.ar 4 1 [.int .u64 0, .int .u64 0, .int .u64 0, .int .u64 0]), .t (.int .u64 0), .t (.bool false), .t (.by x), .own 1, .t (.ar 5 1 [.int .u32 0, .int .u32 0, .int .u32 0, .int .u32 0, .int .u32 0]), .own 2] from rfl]
   repeat refine St (And.intro (And.intro @gentry.eq_1 <| @gentry.eq_2) <| And.intro d1 <| And.intro d2 <| And.intro d5 <| And.intro d9 <| n1) ct34 ?_
   exact AWP.ret (Fin trivial [] [0, 1, 2])
 · rw [hk] at hG
   simp only [ldAK] at hG
   have d1 : ((c.toNat : Int) == 1) = false := c8_ne 1 a1
   have d2 : ((c.toNat : Int) == 2) = false := c8_ne 2 a2
   have d5 : ((c.toNat : Int) == 5) = false := c8_ne 5 a5
   have d9 : ((c.toNat : Int) == 9) = false := c8_ne 9 a9
   have d3 : ((c.toNat : Int) == 3) = true := c8_eq 3 a3
   unfold ldF at hG
   have n1 := num64_t (b := b) (w := w) (by omega)
   have l1 := ld_len (s := ⟨b, w⟩) t64_len
   generalize ld t64 ⟨b, w⟩ = R1 at *
   obtain ⟨v, ⟨b1, w1⟩⟩ := R1
   dsimp only at n1 l1 hG
   have n2 := num32_t (b := b1) (w := w1) (by omega)
   have l2 := ld_len (s := ⟨b1, w1⟩) t32_len
   generalize ld t32 ⟨b1, w1⟩ = R2 at *
   obtain ⟨g, ⟨b2, w2⟩⟩ := R2
   dsimp only at n2 l2 hG
   have n3 := num8_t (b := b2) (w := w2) (by omega)
   have l3 := ld_len (s := ⟨b2, w2⟩) t8_len
   generalize ld t8 ⟨b2, w2⟩ = R3 at *
   obtain ⟨q, ⟨b3, w3⟩⟩ := R3
   dsimp only at n3 l3 hG
   have n4 := str_t (b := b3) (w := w3) (by omega)
   have l4 := ld_len (s := ⟨b3, w3⟩) tBts_len
   generalize ld tBts ⟨b3, w3⟩ = R4 at *
   obtain ⟨x, ⟨b4, w4⟩⟩ := R4
   dsimp only at n4 l4 hG
   have hq : ((q.toNat : Int) == 1) = decide (q = 1) := n8_beq q 1
   rw [takeR_0 (by decide) (by decide)] at hG
   cases hG
   rw [show ansV ⟨c, 0, zH, g, zW, v, decide (q = 1), x, [], zN, []⟩ (.own 1) (.own 2) = .st [.t (.int .u8 (c.toNat : Int)), .t (.int .i64 0), .t (.ba 32 (zby 32)), .t (.int .u32 (g.toNat : Int)), .t (.ar 4 1 [.int .u64 0, .int .u64 0, .int .u64 0, .int .u64 0]), .t (.int .u64 (v.toNat : Int)), .t (.bool (decide (q = 1))), .t (.by x), .own 1, .t (.ar 5 1 [.int .u32 0, .int .u32 0, .int .u32 0, .int .u32 0, .int .u32 0]), .own 2] from rfl]
   repeat refine St (And.intro (And.intro @gentry.eq_1 <| @gentry.eq_2) <| And.intro d1 <| And.intro d2 <| And.intro d5 <| And.intro d9 <| And.intro d3 <| And.intro n1 <| And.intro n2 <| And.intro n3 <| And.intro n4 <| And.intro hq <| w32) ct34 ?_
   exact AWP.ret (Fin trivial [] [0, 1, 2])
 · rw [hk] at hG
   simp only [ldAK] at hG
   have d1 : ((c.toNat : Int) == 1) = false := c8_ne 1 a1
   have d2 : ((c.toNat : Int) == 2) = false := c8_ne 2 a2
   have d5 : ((c.toNat : Int) == 5) = false := c8_ne 5 a5
   have d9 : ((c.toNat : Int) == 9) = false := c8_ne 9 a9
   have d3 : ((c.toNat : Int) == 3) = false := c8_ne 3 a3
   have d4 : ((c.toNat : Int) == 4) = true := c8_eq 4 a4
   have n1 := num64_t (b := b) (w := w) (by omega)
   have l1 := ld_len (s := ⟨b, w⟩) t64_len
   generalize ld t64 ⟨b, w⟩ = R1 at *
   obtain ⟨v, ⟨b1, w1⟩⟩ := R1
   dsimp only at n1 l1 hG
   have n2 := str_t (b := b1) (w := w1) (by omega)
   have l2 := ld_len (s := ⟨b1, w1⟩) tBts_len
   generalize ld tBts ⟨b1, w1⟩ = R2 at *
   obtain ⟨x, ⟨b2, w2⟩⟩ := R2
   dsimp only at n2 l2 hG
   rw [takeR_0 (by decide) (by decide)] at hG
   cases hG
   rw [show ansV ⟨c, 0, zH, 0, zW, v, false, x, [], zN, []⟩ (.own 1) (.own 2) = .st [.t (.int .u8 (c.toNat : Int)), .t (.int .i64 0), .t (.ba 32 (zby 32)), .t (.int .u32 0), .t (.ar 4 1 [.int .u64 0, .int .u64 0, .int .u64 0, .int .u64 0]), .t (.int .u64 (v.toNat : Int)), .t (.bool false), .t (.by x), .own 1, .t (.ar 5 1 [.int .u32 0, .int .u32 0, .int .u32 0, .int .u32 0, .int .u32 0]), .own 2] from rfl]
   repeat refine St (And.intro (And.intro @gentry.eq_1 <| @gentry.eq_2) <| And.intro d1 <| And.intro d2 <| And.intro d5 <| And.intro d9 <| And.intro d3 <| And.intro d4 <| And.intro n1 <| n2) ct34 ?_
   exact AWP.ret (Fin trivial [] [0, 1, 2])
 · rw [hk] at hG
   simp only [ldAK] at hG
   have d1 : ((c.toNat : Int) == 1) = false := c8_ne 1 a1
   have d2 : ((c.toNat : Int) == 2) = false := c8_ne 2 a2
   have d5 : ((c.toNat : Int) == 5) = false := c8_ne 5 a5
   have d9 : ((c.toNat : Int) == 9) = false := c8_ne 9 a9
   have d3 : ((c.toNat : Int) == 3) = false := c8_ne 3 a3
   have d4 : ((c.toNat : Int) == 4) = false := c8_ne 4 a4
   have d6 : ((c.toNat : Int) == 6) = true := c8_eq 6 a6
   have n1 := siz200_t (b := b) (w := w) (by omega)
   have l1 := ldC_len (m := 200) (s := ⟨b, w⟩)
   have k1 := ldC_le (m := 200) (s := ⟨b, w⟩)
   generalize ldC 200 ⟨b, w⟩ = R1 at *
   obtain ⟨m, s1⟩ := R1
   obtain ⟨b1, w1⟩ := s1
   dsimp only at n1 l1 k1 hG
   have hlg := ldN_leng (f := ldE) (fun s => Nat.le_trans (ld_len tH_len) (Nat.le_trans (ld_len t32_len) (Nat.le_trans (ld_len t32_len) (Nat.le_trans (ld_len t32_len) (Nat.le_trans (ld_len t64_len) (Nat.le_trans (ld_len t32_len) (ld_len tH_len)))))))
   repeat refine St (And.intro (And.intro @gentry.eq_1 <| @gentry.eq_2) <| And.intro d1 <| And.intro d2 <| And.intro d5 <| And.intro d9 <| And.intro d3 <| And.intro d4 <| And.intro d6 <| n1) ct34 ?_
   refine AWP.loop (G := { i : Nat // i ≤ m }) (fun i => match i.1 with | 0 => ⟨[(0, .ptr 0 0 []), (3, .ptr 3 0 []), (4, .ptr 4 0 []), (5, .t (.int .i64 (m : Int))), (6, .t (.int .i64 0))], [lX ⟨b1, w1⟩, .sq 69 [], .sq 32 [], .bx (.st [.t (.int .u8 (c.toNat : Int)), .t (.int .i64 0), .t (.ba 32 (zby 32)), .t (.int .u32 0), .t (.ar 4 1 [.int .u64 0, .int .u64 0, .int .u64 0, .int .u64 0]), .t (.int .u64 0), .t (.bool false), .t (.by []), .own 1, .t (.ar 5 1 [.int .u32 0, .int .u32 0, .int .u32 0, .int .u32 0, .int .u32 0]), .own 2]), .bx (.t (.st [.int .u8 0, .int .i64 0, .ba 32 (zby 32), .int .u32 0, .ar 4 1 [.int .u64 0, .int .u64 0, .int .u64 0, .int .u64 0], .int .u64 0, .bool false, .nil, .nil, .ar 5 1 [.int .u32 0, .int .u32 0, .int .u32 0, .int .u32 0, .int .u32 0], .nil]))]⟩ | k + 1 => ⟨[(0, .ptr 0 0 []), (3, .ptr 3 0 []), (4, .ptr 4 0 []), (5, .t (.int .i64 (m : Int))), (6, .t (.int .i64 ((k + 1 : Nat) : Int)))], [lX (ldN ldE (k + 1) ⟨b1, w1⟩).2, .no, .sq 32 [], .bx (.st [.t (.int .u8 (c.toNat : Int)), .t (.int .i64 0), .t (.ba 32 (zby 32)), .t (.int .u32 0), .t (.ar 4 1 [.int .u64 0, .int .u64 0, .int .u64 0, .int .u64 0]), .t (.int .u64 0), .t (.bool false), .t (.by []), .own 5, .t (.ar 5 1 [.int .u32 0, .int .u32 0, .int .u32 0, .int .u32 0, .int .u32 0]), .own 2]), .bx (.t (.st [.int .u8 0, .int .i64 0, .ba 32 (zby 32), .int .u32 0, .ar 4 1 [.int .u64 0, .int .u64 0, .int .u64 0, .int .u64 0], .int .u64 0, .bool false, .nil, .nil, .ar 5 1 [.int .u32 0, .int .u32 0, .int .u32 0, .int .u32 0, .int .u32 0], .nil])), .sq 69 ((ldN ldE (k + 1) ⟨b1, w1⟩).1.map eT)]⟩) (fun i => m - i.1) ⟨0, by omega⟩ (Wt trivial [0, 3, 4, 5, 6] [0, 1, 2, 3, 4]) ?_
   rintro ⟨i, hi⟩
   dsimp only
   have hsn := ldN_snoc ldE i ⟨b1, w1⟩
   have hln := ldN_len ldE i ⟨b1, w1⟩
   have hbl := hlg i ⟨b1, w1⟩
   dsimp only at hbl
   rcases i with _ | k
   · dsimp only
     by_cases hlt : 0 < m
     · have hlt2 : (0 : Int) < (m : Int) := by omega
       have h0 : ldN ldE 0 ⟨b1, w1⟩ = ([], ⟨b1, w1⟩) := rfl
       rw [h0] at hsn
       dsimp only at hsn
       simp only [List.nil_append] at hsn
       obtain ⟨LL, hLL⟩ : ∃ LL, ldN ldE (0 + 1) ⟨b1, w1⟩ = LL := ⟨_, rfl⟩
       rw [hLL] at hsn
       unfold ldE ldI at hsn
       dsimp only at hsn
       have n2 := nam_t (b := b1) (w := w1) (by omega)
       have l2 := ld_len (s := ⟨b1, w1⟩) tH_len
       generalize ld tH ⟨b1, w1⟩ = R2 at *
       obtain ⟨tx, ⟨b2, w2⟩⟩ := R2
       dsimp only at n2 l2 hsn
       have n3 := num32_t (b := b2) (w := w2) (by omega)
       have l3 := ld_len (s := ⟨b2, w2⟩) t32_len
       generalize ld t32 ⟨b2, w2⟩ = R3 at *
       obtain ⟨ix, ⟨b3, w3⟩⟩ := R3
       dsimp only at n3 l3 hsn
       have n4 := num64_t (b := b3) (w := w3) (by omega)
       have l4 := ld_len (s := ⟨b3, w3⟩) t64_len
       generalize ld t64 ⟨b3, w3⟩ = R4 at *
       obtain ⟨vl, ⟨b4, w4⟩⟩ := R4
       dsimp only at n4 l4 hsn
       have n5 := num32_t (b := b4) (w := w4) (by omega)
       have l5 := ld_len (s := ⟨b4, w4⟩) t32_len
       generalize ld t32 ⟨b4, w4⟩ = R5 at *
       obtain ⟨pl, ⟨b5, w5⟩⟩ := R5
       dsimp only at n5 l5 hsn
       have n6 := num32_t (b := b5) (w := w5) (by omega)
       have l6 := ld_len (s := ⟨b5, w5⟩) t32_len
       generalize ld t32 ⟨b5, w5⟩ = R6 at *
       obtain ⟨se, ⟨b6, w6⟩⟩ := R6
       dsimp only at n6 l6 hsn
       have n7 := num32_t (b := b6) (w := w6) (by omega)
       have l7 := ld_len (s := ⟨b6, w6⟩) t32_len
       generalize ld t32 ⟨b6, w6⟩ = R7 at *
       obtain ⟨hg, ⟨b7, w7⟩⟩ := R7
       dsimp only at n7 l7 hsn
       have n8 := nam_t (b := b7) (w := w7) (by omega)
       have l8 := ld_len (s := ⟨b7, w7⟩) tH_len
       generalize ld tH ⟨b7, w7⟩ = R8 at *
       obtain ⟨tp, ⟨b8, w8⟩⟩ := R8
       dsimp only at n8 l8 hsn
       rw [hsn] at hLL
       have ha1 := tx.2
       have ha2 := tp.2
       have hw : IntKind.i64.wrap ((0 : Int) + 1) = ((0 + 1 : Nat) : Int) := by rw [wrap_i64 (by omega) (by omega)]; omega
       repeat refine St (And.intro hlt2 <| And.intro hlt <| And.intro hw <| And.intro n2 <| And.intro n3 <| And.intro n4 <| And.intro n5 <| And.intro n6 <| And.intro n7 <| And.intro n8 <| And.intro w32 <| And.intro wi32 <| And.intro ha1 <| ha2) ct34 ?_
       exact ⟨⟨0 + 1, by omega⟩, (Wt (And.intro hLL <| And.intro @List.map_append.{0, 0} <| And.intro @List.map_cons.{0, 0} <| And.intro @List.map_nil.{0, 0} <| @eT.eq_def) [0, 3, 4, 5, 6] [0, 1, 2, 3, 4, 7]), by simp only; omega⟩
     · obtain rfl : m = 0 := by omega
       have hlt2 : ¬ (0 : Int) < ((0 : Nat) : Int) := by decide
       have h0 : ldN ldE 0 ⟨b1, w1⟩ = ([], ⟨b1, w1⟩) := rfl
       rw [h0, takeR_50 rfl] at hG
       cases hG
       rw [show ansV ⟨c, 0, zH, 0, zW, 0, false, [], [], zN, []⟩ (.own 1) (.own 2) = .st [.t (.int .u8 (c.toNat : Int)), .t (.int .i64 0), .t (.ba 32 (zby 32)), .t (.int .u32 0), .t (.ar 4 1 [.int .u64 0, .int .u64 0, .int .u64 0, .int .u64 0]), .t (.int .u64 0), .t (.bool false), .t (.by []), .own 1, .t (.ar 5 1 [.int .u32 0, .int .u32 0, .int .u32 0, .int .u32 0, .int .u32 0]), .own 2] from rfl]
       repeat refine St hlt2 ct34 ?_
       exact AWP.ret (Fin trivial [] [0, 1, 2])
   · dsimp only
     by_cases hlt : k + 1 < m
     · have hlt2 : ((k + 1 : Nat) : Int) < (m : Int) := by omega
       generalize ldN ldE (k + 1) ⟨b1, w1⟩ = R at *
       obtain ⟨X, s⟩ := R
       obtain ⟨b2, w2⟩ := s
       dsimp only at hsn hln hbl ⊢
       obtain ⟨LL, hLL⟩ : ∃ LL, ldN ldE (k + 1 + 1) ⟨b1, w1⟩ = LL := ⟨_, rfl⟩
       rw [hLL] at hsn
       unfold ldE ldI at hsn
       dsimp only at hsn
       have n2 := nam_t (b := b2) (w := w2) (by omega)
       have l2 := ld_len (s := ⟨b2, w2⟩) tH_len
       generalize ld tH ⟨b2, w2⟩ = R2 at *
       obtain ⟨tx, ⟨b3, w3⟩⟩ := R2
       dsimp only at n2 l2 hsn
       have n3 := num32_t (b := b3) (w := w3) (by omega)
       have l3 := ld_len (s := ⟨b3, w3⟩) t32_len
       generalize ld t32 ⟨b3, w3⟩ = R3 at *
       obtain ⟨ix, ⟨b4, w4⟩⟩ := R3
       dsimp only at n3 l3 hsn
       have n4 := num64_t (b := b4) (w := w4) (by omega)
       have l4 := ld_len (s := ⟨b4, w4⟩) t64_len
       generalize ld t64 ⟨b4, w4⟩ = R4 at *
       obtain ⟨vl, ⟨b5, w5⟩⟩ := R4
       dsimp only at n4 l4 hsn
       have n5 := num32_t (b := b5) (w := w5) (by omega)
       have l5 := ld_len (s := ⟨b5, w5⟩) t32_len
       generalize ld t32 ⟨b5, w5⟩ = R5 at *
       obtain ⟨pl, ⟨b6, w6⟩⟩ := R5
       dsimp only at n5 l5 hsn
       have n6 := num32_t (b := b6) (w := w6) (by omega)
       have l6 := ld_len (s := ⟨b6, w6⟩) t32_len
       generalize ld t32 ⟨b6, w6⟩ = R6 at *
       obtain ⟨se, ⟨b7, w7⟩⟩ := R6
       dsimp only at n6 l6 hsn
       have n7 := num32_t (b := b7) (w := w7) (by omega)
       have l7 := ld_len (s := ⟨b7, w7⟩) t32_len
       generalize ld t32 ⟨b7, w7⟩ = R7 at *
       obtain ⟨hg, ⟨b8, w8⟩⟩ := R7
       dsimp only at n7 l7 hsn
       have n8 := nam_t (b := b8) (w := w8) (by omega)
       have l8 := ld_len (s := ⟨b8, w8⟩) tH_len
       generalize ld tH ⟨b8, w8⟩ = R8 at *
       obtain ⟨tp, ⟨b9, w9⟩⟩ := R8
       dsimp only at n8 l8 hsn
       rw [hsn] at hLL
       have ha1 := tx.2
       have ha2 := tp.2
       have hal : (X.map eT).length ≤ 1000 := by rw [List.length_map]; omega
       have hw : IntKind.i64.wrap (((k + 1 : Nat) : Int) + 1) = ((k + 1 + 1 : Nat) : Int) := by rw [wrap_i64 (by omega) (by omega)]; omega
       generalize hj : k + 1 = j at *
       repeat refine St (And.intro hlt2 <| And.intro hlt <| And.intro hw <| And.intro hal <| And.intro n2 <| And.intro n3 <| And.intro n4 <| And.intro n5 <| And.intro n6 <| And.intro n7 <| And.intro n8 <| And.intro w32 <| And.intro wi32 <| And.intro ha1 <| ha2) ct34 ?_
       exact ⟨⟨j + 1, by omega⟩, (Wt (And.intro hLL <| And.intro @List.map_append.{0, 0} <| And.intro @List.map_cons.{0, 0} <| And.intro @List.map_nil.{0, 0} <| @eT.eq_def) [0, 3, 4, 5, 6] [0, 1, 2, 3, 4, 8]), by simp only; omega⟩
     · obtain rfl : k + 1 = m := by omega
       have hlt2 : ¬ ((k + 1 : Nat) : Int) < ((k + 1 : Nat) : Int) := by omega
       rw [takeR_5 (fun h => by dsimp only at h; rw [h] at hln; exact absurd hln (by simp))] at hG
       cases hG
       rw [show ∀ X, ansV ⟨c, 0, zH, 0, zW, 0, false, [], X, zN, []⟩ (.own 3) (.own 2) = .st [.t (.int .u8 (c.toNat : Int)), .t (.int .i64 0), .t (.ba 32 (zby 32)), .t (.int .u32 0), .t (.ar 4 1 [.int .u64 0, .int .u64 0, .int .u64 0, .int .u64 0]), .t (.int .u64 0), .t (.bool false), .t (.by []), .own 3, .t (.ar 5 1 [.int .u32 0, .int .u32 0, .int .u32 0, .int .u32 0, .int .u32 0]), .own 2] from fun _ => rfl]
       repeat refine St hlt2 ct34 ?_
       exact AWP.ret (Fin trivial [] [0, 1, 2, 5])
 · rw [hk] at hG
   simp only [ldAK] at hG
   have d1 : ((c.toNat : Int) == 1) = false := c8_ne 1 a1
   have d2 : ((c.toNat : Int) == 2) = false := c8_ne 2 a2
   have d5 : ((c.toNat : Int) == 5) = false := c8_ne 5 a5
   have d9 : ((c.toNat : Int) == 9) = false := c8_ne 9 a9
   have d3 : ((c.toNat : Int) == 3) = false := c8_ne 3 a3
   have d4 : ((c.toNat : Int) == 4) = false := c8_ne 4 a4
   have d6 : ((c.toNat : Int) == 6) = false := c8_ne 6 a6
   have d7 : ((c.toNat : Int) == 7) = true := c8_eq 7 a7
   rw [takeR_0 (by decide) (by decide)] at hG
   cases hG
   rw [show ∀ X, ansV ⟨c, 0, zH, 0, zW, 0, false, [], [], X, []⟩ (.own 1) (.own 2) = .st [.t (.int .u8 (c.toNat : Int)), .t (.int .i64 0), .t (.ba 32 (zby 32)), .t (.int .u32 0), .t (.ar 4 1 [.int .u64 0, .int .u64 0, .int .u64 0, .int .u64 0]), .t (.int .u64 0), .t (.bool false), .t (.by []), .own 1, .t (.ar 5 1 (X.1.map nT)), .own 2] from fun _ => rfl]
   have hlg := ldN_leng (f := ld t32) (fun s => ld_len t32_len)
   repeat refine St (And.intro (And.intro @gentry.eq_1 <| @gentry.eq_2) <| And.intro d1 <| And.intro d2 <| And.intro d5 <| And.intro d9 <| And.intro d3 <| And.intro d4 <| And.intro d6 <| d7) ct34 ?_
   refine AWP.loop (G := { i : Nat // i ≤ 5 }) (fun i => ⟨[(0, .ptr 0 0 []), (3, .ptr 3 0 []), (4, .ptr 4 0 []), (8, .t (.int .i64 (i.1 : Int)))], [lX (ldN (ld t32) i.1 ⟨b, w⟩).2, .sq 69 [], .sq 32 [], .bx (.st [.t (.int .u8 (c.toNat : Int)), .t (.int .i64 0), .t (.ba 32 (zby 32)), .t (.int .u32 0), .t (.ar 4 1 [.int .u64 0, .int .u64 0, .int .u64 0, .int .u64 0]), .t (.int .u64 0), .t (.bool false), .t (.by []), .own 1, .t (.ar 5 1 (((ldN (ld t32) i.1 ⟨b, w⟩).1 ++ List.replicate (5 - i.1) 0).map nT)), .own 2]), .bx (.t (.st [.int .u8 0, .int .i64 0, .ba 32 (zby 32), .int .u32 0, .ar 4 1 [.int .u64 0, .int .u64 0, .int .u64 0, .int .u64 0], .int .u64 0, .bool false, .nil, .nil, .ar 5 1 [.int .u32 0, .int .u32 0, .int .u32 0, .int .u32 0, .int .u32 0], .nil]))]⟩) (fun i => 5 - i.1) ⟨0, by omega⟩ (Wt (And.intro (And.intro @ldN.eq_1 <| @ldN.eq_2) <| And.intro @List.nil_append.{0} <| And.intro @Nat.sub_zero <| @rep5) [0, 3, 4, 8] [0, 1, 2, 3, 4]) ?_
   rintro ⟨i, hi⟩
   dsimp only
   have hsn := ldN_snoc (ld t32) i ⟨b, w⟩
   have hln := ldN_len (ld t32) i ⟨b, w⟩
   have hbl := hlg i ⟨b, w⟩
   dsimp only at hbl
   by_cases hlt : i < 5
   · have hlt2 : (i : Int) < 5 := by omega
     generalize ldN (ld t32) i ⟨b, w⟩ = R at *
     obtain ⟨X, s⟩ := R
     obtain ⟨b2, w2⟩ := s
     dsimp only at hsn hln hbl ⊢
     have n2 := num32_t (b := b2) (w := w2) (by omega)
     generalize ld t32 ⟨b2, w2⟩ = R2 at *
     obtain ⟨g, ⟨b3, w3⟩⟩ := R2
     dsimp only at n2 hsn
     have hset := set5 X g hln hlt
     have hl5 : ((X ++ List.replicate (5 - i) 0).map nT).length = 5 := by simp; omega
     have hgs : ((X ++ List.replicate (5 - i) 0).map nT).getD i default = .int .u32 (((X ++ List.replicate (5 - i) 0).getD i 0).toNat : Int) := get5 _ (by simp; omega)
     have hw : IntKind.i64.wrap ((i : Int) + 1) = ((i + 1 : Nat) : Int) := by rw [wrap_i64 (by omega) (by omega)]; omega
     repeat refine St (And.intro hlt2 <| And.intro hlt <| And.intro hw <| And.intro n2 <| And.intro w32 <| And.intro hl5 <| And.intro hgs <| And.intro hset <| @T.size.eq_def) ct34 ?_
     exact ⟨⟨i + 1, by omega⟩, (Wt hsn [0, 3, 4, 8] [0, 1, 2, 3, 4]), by simp only; omega⟩
   · obtain rfl : i = 5 := by omega
     have hlt2 : ¬ ((5 : Nat) : Int) < 5 := by decide
     have h5 : (ldN (ld t32) 5 ⟨b, w⟩).1 ++ List.replicate (5 - 5) 0 = (n5Of (ldN (ld t32) 5 ⟨b, w⟩).1).1 := by rw [n5Of_val hln]; simp
     rw [h5]
     repeat refine St hlt2 ct34 ?_
     exact AWP.ret (Fin trivial [] [0, 1, 2])
 · rw [hk] at hG
   simp only [ldAK] at hG
   have d1 : ((c.toNat : Int) == 1) = false := c8_ne 1 a1
   have d2 : ((c.toNat : Int) == 2) = false := c8_ne 2 a2
   have d5 : ((c.toNat : Int) == 5) = false := c8_ne 5 a5
   have d9 : ((c.toNat : Int) == 9) = false := c8_ne 9 a9
   have d3 : ((c.toNat : Int) == 3) = false := c8_ne 3 a3
   have d4 : ((c.toNat : Int) == 4) = false := c8_ne 4 a4
   have d6 : ((c.toNat : Int) == 6) = false := c8_ne 6 a6
   have d7 : ((c.toNat : Int) == 7) = false := c8_ne 7 a7
   have d8 : ((c.toNat : Int) == 8) = true := c8_eq 8 a8
   have n1 := nam_t (b := b) (w := w) (by omega)
   have l1 := ld_len (s := ⟨b, w⟩) tH_len
   generalize ld tH ⟨b, w⟩ = R1 at *
   obtain ⟨n, ⟨b1, w1⟩⟩ := R1
   dsimp only at n1 l1 hG
   have hn := n.2
   rw [takeR_0 (by decide) (by decide)] at hG
   cases hG
   rw [show ansV ⟨c, 0, n, 0, zW, 0, false, [], [], zN, []⟩ (.own 1) (.own 2) = .st [.t (.int .u8 (c.toNat : Int)), .t (.int .i64 0), .t (.ba 32 n.1), .t (.int .u32 0), .t (.ar 4 1 [.int .u64 0, .int .u64 0, .int .u64 0, .int .u64 0]), .t (.int .u64 0), .t (.bool false), .t (.by []), .own 1, .t (.ar 5 1 [.int .u32 0, .int .u32 0, .int .u32 0, .int .u32 0, .int .u32 0]), .own 2] from rfl]
   repeat refine St (And.intro (And.intro @gentry.eq_1 <| @gentry.eq_2) <| And.intro d1 <| And.intro d2 <| And.intro d5 <| And.intro d9 <| And.intro d3 <| And.intro d4 <| And.intro d6 <| And.intro d7 <| And.intro d8 <| And.intro n1 <| hn) ct34 ?_
   exact AWP.ret (Fin trivial [] [0, 1, 2])
 · rw [hk] at hG
   simp only [ldAK] at hG
   have d1 : ((c.toNat : Int) == 1) = false := c8_ne 1 a1
   have d2 : ((c.toNat : Int) == 2) = false := c8_ne 2 a2
   have d5 : ((c.toNat : Int) == 5) = false := c8_ne 5 a5
   have d9 : ((c.toNat : Int) == 9) = false := c8_ne 9 a9
   have d3 : ((c.toNat : Int) == 3) = false := c8_ne 3 a3
   have d4 : ((c.toNat : Int) == 4) = false := c8_ne 4 a4
   have d6 : ((c.toNat : Int) == 6) = false := c8_ne 6 a6
   have d7 : ((c.toNat : Int) == 7) = false := c8_ne 7 a7
   have d8 : ((c.toNat : Int) == 8) = false := c8_ne 8 a8
   have d10 : ((c.toNat : Int) == 10) = true := c8_eq 10 a10
   have n1 := siz100_t (b := b) (w := w) (by omega)
   have l1 := ldC_len (m := 100) (s := ⟨b, w⟩)
   have k1 := ldC_le (m := 100) (s := ⟨b, w⟩)
   generalize ldC 100 ⟨b, w⟩ = R1 at *
   obtain ⟨m, s1⟩ := R1
   obtain ⟨b1, w1⟩ := s1
   dsimp only at n1 l1 k1 hG
   have hlg := ldN_leng (f := ld tH) (fun s => ld_len tH_len)
   repeat refine St (And.intro (And.intro @gentry.eq_1 <| @gentry.eq_2) <| And.intro d1 <| And.intro d2 <| And.intro d5 <| And.intro d9 <| And.intro d3 <| And.intro d4 <| And.intro d6 <| And.intro d7 <| And.intro d8 <| And.intro d10 <| n1) ct34 ?_
   refine AWP.loop (G := { i : Nat // i ≤ m }) (fun i => match i.1 with | 0 => ⟨[(0, .ptr 0 0 []), (3, .ptr 3 0 []), (4, .ptr 4 0 []), (9, .t (.int .i64 (m : Int))), (10, .t (.int .i64 0))], [lX ⟨b1, w1⟩, .sq 69 [], .sq 32 [], .bx (.st [.t (.int .u8 (c.toNat : Int)), .t (.int .i64 0), .t (.ba 32 (zby 32)), .t (.int .u32 0), .t (.ar 4 1 [.int .u64 0, .int .u64 0, .int .u64 0, .int .u64 0]), .t (.int .u64 0), .t (.bool false), .t (.by []), .own 1, .t (.ar 5 1 [.int .u32 0, .int .u32 0, .int .u32 0, .int .u32 0, .int .u32 0]), .own 2]), .bx (.t (.st [.int .u8 0, .int .i64 0, .ba 32 (zby 32), .int .u32 0, .ar 4 1 [.int .u64 0, .int .u64 0, .int .u64 0, .int .u64 0], .int .u64 0, .bool false, .nil, .nil, .ar 5 1 [.int .u32 0, .int .u32 0, .int .u32 0, .int .u32 0, .int .u32 0], .nil]))]⟩ | k + 1 => ⟨[(0, .ptr 0 0 []), (3, .ptr 3 0 []), (4, .ptr 4 0 []), (9, .t (.int .i64 (m : Int))), (10, .t (.int .i64 ((k + 1 : Nat) : Int)))], [lX (ldN (ld tH) (k + 1) ⟨b1, w1⟩).2, .sq 69 [], .no, .bx (.st [.t (.int .u8 (c.toNat : Int)), .t (.int .i64 0), .t (.ba 32 (zby 32)), .t (.int .u32 0), .t (.ar 4 1 [.int .u64 0, .int .u64 0, .int .u64 0, .int .u64 0]), .t (.int .u64 0), .t (.bool false), .t (.by []), .own 1, .t (.ar 5 1 [.int .u32 0, .int .u32 0, .int .u32 0, .int .u32 0, .int .u32 0]), .own 5]), .bx (.t (.st [.int .u8 0, .int .i64 0, .ba 32 (zby 32), .int .u32 0, .ar 4 1 [.int .u64 0, .int .u64 0, .int .u64 0, .int .u64 0], .int .u64 0, .bool false, .nil, .nil, .ar 5 1 [.int .u32 0, .int .u32 0, .int .u32 0, .int .u32 0, .int .u32 0], .nil])), .sq 32 ((ldN (ld tH) (k + 1) ⟨b1, w1⟩).1.map hT)]⟩) (fun i => m - i.1) ⟨0, by omega⟩ (Wt trivial [0, 3, 4, 9, 10] [0, 1, 2, 3, 4]) ?_
   rintro ⟨i, hi⟩
   dsimp only
   have hsn := ldN_snoc (ld tH) i ⟨b1, w1⟩
   have hln := ldN_len (ld tH) i ⟨b1, w1⟩
   have hbl := hlg i ⟨b1, w1⟩
   dsimp only at hbl
   rcases i with _ | k
   · dsimp only
     by_cases hlt : 0 < m
     · have hlt2 : (0 : Int) < (m : Int) := by omega
       have h0 : ldN (ld tH) 0 ⟨b1, w1⟩ = ([], ⟨b1, w1⟩) := rfl
       rw [h0] at hsn
       dsimp only at hsn
       simp only [List.nil_append] at hsn
       have n2 := nam_t (b := b1) (w := w1) (by omega)
       have l2 := ld_len (s := ⟨b1, w1⟩) tH_len
       generalize ld tH ⟨b1, w1⟩ = R2 at *
       obtain ⟨h, ⟨b2, w2⟩⟩ := R2
       dsimp only at n2 l2 hsn
       have ha1 := h.2
       have hw : IntKind.i64.wrap ((0 : Int) + 1) = ((0 + 1 : Nat) : Int) := by rw [wrap_i64 (by omega) (by omega)]; omega
       repeat refine St (And.intro hlt2 <| And.intro hlt <| And.intro hw <| And.intro n2 <| ha1) ct34 ?_
       exact ⟨⟨0 + 1, by omega⟩, (Wt (And.intro hsn <| And.intro @List.map_append.{0, 0} <| And.intro @List.map_cons.{0, 0} <| And.intro @List.map_nil.{0, 0} <| @hT.eq_def) [0, 3, 4, 9, 10] [0, 1, 2, 3, 4, 7]), by simp only; omega⟩
     · obtain rfl : m = 0 := by omega
       have hlt2 : ¬ (0 : Int) < ((0 : Nat) : Int) := by decide
       have h0 : ldN (ld tH) 0 ⟨b1, w1⟩ = ([], ⟨b1, w1⟩) := rfl
       rw [h0, takeR_80 rfl] at hG
       cases hG
       rw [show ansV ⟨c, 0, zH, 0, zW, 0, false, [], [], zN, []⟩ (.own 1) (.own 2) = .st [.t (.int .u8 (c.toNat : Int)), .t (.int .i64 0), .t (.ba 32 (zby 32)), .t (.int .u32 0), .t (.ar 4 1 [.int .u64 0, .int .u64 0, .int .u64 0, .int .u64 0]), .t (.int .u64 0), .t (.bool false), .t (.by []), .own 1, .t (.ar 5 1 [.int .u32 0, .int .u32 0, .int .u32 0, .int .u32 0, .int .u32 0]), .own 2] from rfl]
       repeat refine St hlt2 ct34 ?_
       exact AWP.ret (Fin trivial [] [0, 1, 2])
   · dsimp only
     by_cases hlt : k + 1 < m
     · have hlt2 : ((k + 1 : Nat) : Int) < (m : Int) := by omega
       generalize ldN (ld tH) (k + 1) ⟨b1, w1⟩ = R at *
       obtain ⟨X, s⟩ := R
       obtain ⟨b2, w2⟩ := s
       dsimp only at hsn hln hbl ⊢
       have n2 := nam_t (b := b2) (w := w2) (by omega)
       have l2 := ld_len (s := ⟨b2, w2⟩) tH_len
       generalize ld tH ⟨b2, w2⟩ = R2 at *
       obtain ⟨h, ⟨b3, w3⟩⟩ := R2
       dsimp only at n2 l2 hsn
       have ha1 := h.2
       have hal : (X.map hT).length ≤ 1000 := by rw [List.length_map]; omega
       have hw : IntKind.i64.wrap (((k + 1 : Nat) : Int) + 1) = ((k + 1 + 1 : Nat) : Int) := by rw [wrap_i64 (by omega) (by omega)]; omega
       generalize hj : k + 1 = j at *
       repeat refine St (And.intro hlt2 <| And.intro hlt <| And.intro hw <| And.intro hal <| And.intro n2 <| ha1) ct34 ?_
       exact ⟨⟨j + 1, by omega⟩, (Wt (And.intro hsn <| And.intro @List.map_append.{0, 0} <| And.intro @List.map_cons.{0, 0} <| And.intro @List.map_nil.{0, 0} <| @hT.eq_def) [0, 3, 4, 9, 10] [0, 1, 2, 3, 4, 8]), by simp only; omega⟩
     · obtain rfl : k + 1 = m := by omega
       have hlt2 : ¬ ((k + 1 : Nat) : Int) < ((k + 1 : Nat) : Int) := by omega
       rw [takeR_8 (fun h => by dsimp only at h; rw [h] at hln; exact absurd hln (by simp))] at hG
       cases hG
       rw [show ∀ X, ansV ⟨c, 0, zH, 0, zW, 0, false, [], [], zN, X⟩ (.own 1) (.own 3) = .st [.t (.int .u8 (c.toNat : Int)), .t (.int .i64 0), .t (.ba 32 (zby 32)), .t (.int .u32 0), .t (.ar 4 1 [.int .u64 0, .int .u64 0, .int .u64 0, .int .u64 0]), .t (.int .u64 0), .t (.bool false), .t (.by []), .own 1, .t (.ar 5 1 [.int .u32 0, .int .u32 0, .int .u32 0, .int .u32 0, .int .u32 0]), .own 3] from fun _ => rfl]
       repeat refine St hlt2 ct34 ?_
       exact AWP.ret (Fin trivial [] [0, 1, 2, 5])
 · rw [hk] at hG
   simp only [ldAK] at hG
   have d1 : ((c.toNat : Int) == 1) = false := c8_ne 1 a1
   have d2 : ((c.toNat : Int) == 2) = false := c8_ne 2 a2
   have d5 : ((c.toNat : Int) == 5) = false := c8_ne 5 a5
   have d9 : ((c.toNat : Int) == 9) = false := c8_ne 9 a9
   have d3 : ((c.toNat : Int) == 3) = false := c8_ne 3 a3
   have d4 : ((c.toNat : Int) == 4) = false := c8_ne 4 a4
   have d6 : ((c.toNat : Int) == 6) = false := c8_ne 6 a6
   have d7 : ((c.toNat : Int) == 7) = false := c8_ne 7 a7
   have d8 : ((c.toNat : Int) == 8) = false := c8_ne 8 a8
   have d10 : ((c.toNat : Int) == 10) = false := c8_ne 10 a10
   rw [takeR_0 (by decide) (by decide)] at hG
   cases hG
   rw [show ansV (bareA c 0) (.own 1) (.own 2) = .st [.t (.int .u8 (c.toNat : Int)), .t (.int .i64 0), .t (.ba 32 (zby 32)), .t (.int .u32 0), .t (.ar 4 1 [.int .u64 0, .int .u64 0, .int .u64 0, .int .u64 0]), .t (.int .u64 0), .t (.bool false), .t (.by []), .own 1, .t (.ar 5 1 [.int .u32 0, .int .u32 0, .int .u32 0, .int .u32 0, .int .u32 0]), .own 2] from rfl]
   repeat refine St (And.intro (And.intro @gentry.eq_1 <| @gentry.eq_2) <| And.intro d1 <| And.intro d2 <| And.intro d5 <| And.intro d9 <| And.intro d3 <| And.intro d4 <| And.intro d6 <| And.intro d7 <| And.intro d8 <| d10) ct34 ?_
   exact AWP.ret (Fin trivial [] [0, 1, 2])
theorem take_t {b : List UInt8} {w : Bool} {c : UInt8} (h : b.length ≤ 549755800000) : G34 [.bx (.t (.st [.by b, .bool w])), .sq 69 [], .sq 32 []] [.ptr 0 0 [], bareX c] = takeR (kA c) (ldAK c (kA c) ⟨b, w⟩) := by
 simp only [G34, inv_of bareX_inj]
 exact if_pos h
end Go.Fw

end
