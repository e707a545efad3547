/- The abstract machine, and the contracts of the code: part 50. -/
import Derived.Test.YtchljppcenckaaaP49

section
/- compact: bytes that are lent are taken apart where they lie. -/
namespace Go.Fw
open Go Go.Proofs
set_option linter.unusedVariables false
set_option linter.unusedSimpArgs false

noncomputable def G96L : GFun
  | [.by b], [.sub 0 [] 1 0 lo len] => @ite _ ((lo + len ≤ b.length ∧ b.length ≤ 549755813000)) (Classical.propDecidable _) ((some ([.by b, .by ((b.drop lo).take len)], .own 1))) none
  | [], [.t (.by b)] => @ite _ ((b.length ≤ 549755813000)) (Classical.propDecidable _) ((some ([.by b], .own 0))) none
  | _, _ => none

theorem ct96L : CT [] [0, 2] [] := ⟨GClOk.nil _⟩

theorem g96L : GCon Try.prog 96 G96L := by
  refine gconc E_ok (rs := [.tmp 2 22]) Try.func96 rfl Try.ntmps96 (by kernel_rfl) rfl (by decide) G96L (np := 1) ?_ ?_
  · intro HB xs h; unfold G96L; split <;> first | rfl | (simp at h; done)
  intro HB xs H r hG hwf hex
  unfold G96L at hG
  split at hG <;> try (cases hG; done)
  
  · rename_i b lo len
    split at hG
    case isFalse => cases hG
    rename_i hc
    obtain ⟨h1, h2⟩ := hc
    cases hG
    repeat refine St (And.intro @gentry.eq_1 <| @gentry.eq_2) ct96L ?_
    exact AWP.ret (Fin trivial [] [0, 1])
  · rename_i b
    split at hG
    case isFalse => cases hG
    rename_i h2
    cases hG
    repeat refine St (And.intro @gentry.eq_1 <| @gentry.eq_2) ct96L ?_
    exact AWP.ret (Fin trivial [] [0])

theorem copied_l {b x : List UInt8} {lo : Nat} (h1 : lo + x.length ≤ b.length) (h2 : b.length ≤ 549755813000) (h : (b.drop lo).take x.length = x) : G96L [.by b] [.sub 0 [] 1 0 lo x.length] = some ([.by b, .by x], .own 1) := by
  have : G96L [.by b] [.sub 0 [] 1 0 lo x.length] = some ([.by b, .by ((b.drop lo).take x.length)], .own 1) := if_pos ⟨h1, h2⟩
  rw [this, h]
theorem copied_n {b : List UInt8} (h2 : b.length ≤ 549755813000) : G96L [] [.t (.by b)] = some ([.by b], .own 0) := if_pos h2

noncomputable def G98L : GFun
  | [.by b], [.sub 0 [] 1 0 lo len, .t (.int .i64 n)] => @ite _ ((lo + len ≤ b.length)) (Classical.propDecidable _) ((some ([.by b], spR lo len n))) none
  | _, _ => none

theorem ct98L : CT [] [0, 1, 4, 5, 6, 7, 10] [(5, [⟨0, [0], [], []⟩, ⟨0, [1], [], []⟩, ⟨1, [15, 16], [], []⟩, ⟨0, [0], [], []⟩, ⟨0, [1], [], []⟩, ⟨1, [18, 19], [], []⟩, ⟨0, [17], [2], []⟩, ⟨0, [20], [2, 5], []⟩, ⟨0, [], [2, 5], []⟩])] := ⟨GClOk.nil _⟩

theorem g98L : GCon Try.prog 98 G98L := by
  refine gconc E_ok (rs := [.tmp 4 22, .tmp 5 22, .tmp 6 29]) Try.func98 rfl Try.ntmps98 (by kernel_rfl) rfl (by decide) G98L (np := 2) ?_ ?_
  · intro HB xs h; unfold G98L; split <;> first | rfl | (simp at h; done)
  intro HB xs H r hG hwf hex
  unfold G98L at hG
  split at hG <;> try (cases hG; done)
  
  rename_i b lo len n
  split at hG
  case isFalse => cases hG
  rename_i hc
  have hb := hc
  cases hG
  by_cases h1 : n < 0
  · repeat refine St (And.intro @gentry.eq_1 <| @gentry.eq_2) ct98L ?_
    exact AWP.ret (Fin (And.intro @spR.eq_def <| h1) [] [0])
  by_cases h2 : (len : Int) < n
  · repeat refine St (And.intro @gentry.eq_1 <| @gentry.eq_2) ct98L ?_
    exact AWP.ret (Fin (And.intro @spR.eq_def <| And.intro h1 <| h2) [] [0])
  repeat refine St (And.intro @gentry.eq_1 <| @gentry.eq_2) ct98L ?_
  exact AWP.ret (Fin (And.intro @spR.eq_def <| And.intro h1 <| h2) [] [0])

theorem split_l {b x : List UInt8} (h : Sfx b x) (n : Int) : G98L [.by b] [.sub 0 [] 1 0 (b.length - x.length) x.length, .t (.int .i64 n)] = some ([.by b], .tup [eAV (spE x n) (.sub 0 [] 1 0 (b.length - x.length) (spA x n).length), eAV (spE x n) (.sub 0 [] 1 0 (b.length - (spB x n).length) (spB x n).length), .t (.int .i64 (spE x n))]) := by
  rw [← spR_eq h n]
  exact if_pos (by have := h.2; omega)

noncomputable def G95L : GFun
  | [.by b], [.sub 0 [] 1 0 lo len, .t (.int .i64 n)] => @ite _ ((lo + len = b.length ∧ n ≤ 8)) (Classical.propDecidable _) ((some ([.by b], .tup [.t (.int .u64 (num (spA (b.drop lo) n))), eAV (spE (b.drop lo) n) (.sub 0 [] 1 0 (b.length - (spB (b.drop lo) n).length) (spB (b.drop lo) n).length), .t (.int .i64 (spE (b.drop lo) n))]))) none
  | _, _ => none

theorem ct95L : CT [(98, ⟨[true, false], G98L⟩)] [0, 1, 4, 5, 6, 7, 8, 9, 10, 11, 20, 21, 22] [] := ⟨(.cons g98L (.nil _))⟩

theorem g95L : GCon Try.prog 95 G95L := by
  refine gconc E_ok (rs := [.tmp 4 35, .tmp 5 22, .tmp 6 29]) Try.func95 rfl Try.ntmps95 (by kernel_rfl) rfl (by decide) G95L (np := 2) ?_ ?_
  · intro HB xs h; unfold G95L; split <;> first | rfl | (simp at h; done)
  intro HB xs H r hG hwf hex
  unfold G95L at hG
  split at hG <;> try (cases hG; done)
  
  rename_i b lo len n
  split at hG
  case isFalse => cases hG
  rename_i hc
  obtain ⟨hb, hn⟩ := hc
  cases hG
  obtain ⟨y, hs, rfl, rfl⟩ := Sfx.of hb
  rw [← hs.1]
  have h8 := spA_le y n 8 hn
  have hsp := split_l hs n
  have hsl := hs.2
  by_cases he : spE y n = 0
  rotate_left
  · rw [eAV_1 he, eAV_1 he] at hsp
    rw [eAV_1 he]
    obtain ⟨q1, q2⟩ := sp_bad he
    rw [q1]
    repeat refine St (And.intro (And.intro @gentry.eq_1 <| @gentry.eq_2) <| hsp) ct95L ?_
    refine AWP.loop (G := Unit) (fun _ => ⟨[(8, .t (.by [])), (9, .t (.int .i64 (spE y n))), (10, .t (.int .u64 0)), (20, .t (.int .i64 0)), (21, .t (.int .i64 0))], [.by b]⟩)
      (fun _ => 0) () (Wt trivial [8, 9, 10, 20, 21] [0]) ?_
    intro _
    repeat refine St trivial ct95L ?_
    exact AWP.ret (Fin (And.intro @num.eq_1 <| @num.eq_2) [] [0])
  obtain ⟨q1, q2, q3, q4⟩ := spA_at hs he
  have hget : ∀ k, k < (spA y n).length → b.getD (b.length - y.length + k) 0 = (spA y n).getD k 0 := fun k hk => by
    rw [getD_at hs (by rw [q3] at hk; have := (sp_0 he).2.1; omega), (sp_0 he).2.2.1]
    rw [(sp_0 he).2.2.1, List.length_take] at hk
    simp [List.getD_eq_getElem?_getD, List.getElem?_take, show k < n.toNat by omega]
  have hle : b.length - y.length + (spA y n).length ≤ b.length := by omega
  rw [he, eAV_0, eAV_0] at hsp
  rw [he, eAV_0]
  generalize spA y n = x at *
  generalize (spB y n).length = r at *
  generalize hlo : b.length - y.length = lo at *
  repeat refine St (And.intro (And.intro @gentry.eq_1 <| @gentry.eq_2) <| hsp) ct95L ?_
  have hz : num (x.take 0) = 0 := by simp [num]
  refine AWP.loop (G := { k : Nat // k ≤ x.length }) (fun k => ⟨[(7, .sub 0 [] 1 0 lo x.length), (8, .sub 0 [] 1 0 (b.length - r) r), (9, .t (.int .i64 0)), (10, .t (.int .u64 (num (x.take k.1)))), (20, .t (.int .i64 (x.length : Int))), (21, .t (.int .i64 (k.1 : Int)))], [.by b]⟩)
    (fun k => x.length - k.1) ⟨0, by omega⟩ (Wt (And.intro hz <| (And.intro @num.eq_1 <| @num.eq_2)) [7, 8, 9, 10, 20, 21] [0]) ?_
  intro ⟨k, hk⟩
  dsimp only
  by_cases hlt : (k : Int) < (x.length : Int)
  · have hd := num_take x k (by omega)
    have h88 := num_lt8 (x.take (k + 1)) (by simp; omega)
    have hp := num_lt (x.take k)
    have htl : (x.take k).length = k := by simp; omega
    rw [htl] at hp
    have hc := (x.getD k 0).toNat_lt
    have e1 : IntKind.i64.wrap (8 * (k : Int)) = ((8 * k : Nat) : Int) := by rw [wrap_i64 (by omega) (by omega)]; omega
    have e2 : IntKind.u64.wrap (((x.getD k 0).toNat : Int) * 2 ^ min (8 * k) IntKind.u64.bits) = (((x.getD k 0).toNat * 256 ^ k : Nat) : Int) := by
      have := shl_step (x.getD k 0).toNat k (by omega) (by omega)
      simp only [arith, Int.toNat_natCast] at this
      rw [if_neg (by omega)] at this
      have h1 : min (8 * k) IntKind.u64.bits = min (8 * k) 64 := rfl
      simpa using this
    have e3 : abits .or .u64 (num (x.take k) : Int) (((x.getD k 0).toNat * 256 ^ k : Nat) : Int) = ((num (x.take (k + 1)) : Nat) : Int) := by
      have := or_step (num (x.take k)) (x.getD k 0).toNat k hp (by omega)
      rw [← hd] at this
      simpa only [arith, Option.some.injEq, T.int.injEq, true_and] using this
    have e0 : ¬ ((8 * k : Nat) : Int) < 0 := by omega
    have hkx : k < x.length := by omega
    have hkb : lo + k < b.length := by omega
    have hg := hget k hkx
    have e4 : IntKind.u64.wrap ((x.getD k 0).toNat : Int) = ((x.getD k 0).toNat : Int) := wrap_u64 (by omega) (by omega)
    repeat refine St (And.intro hkx <| And.intro hkb <| And.intro hg <| And.intro e0 <| And.intro e1 <| And.intro e2 <| And.intro e3 <| e4) ct95L ?_
    exact ⟨⟨k + 1, by omega⟩, (Wt trivial [7, 8, 9, 10, 20, 21] [0]), by simp only; omega⟩
  · obtain rfl : k = x.length := by omega
    repeat refine St trivial ct95L ?_
    exact AWP.ret (Fin (@List.take_length.{0}) [] [0])

theorem read_l {b x : List UInt8} (h : Sfx b x) (n : Int) (hn : n ≤ 8) : G95L [.by b] [.sub 0 [] 1 0 (b.length - x.length) x.length, .t (.int .i64 n)] = some ([.by b], .tup [.t (.int .u64 (num (spA x n))), eAV (spE x n) (.sub 0 [] 1 0 (b.length - (spB x n).length) (spB x n).length), .t (.int .i64 (spE x n))]) := by
  have h0 : G95L [.by b] [.sub 0 [] 1 0 (b.length - x.length) x.length, .t (.int .i64 n)] = some ([.by b], .tup [.t (.int .u64 (num (spA (b.drop (b.length - x.length)) n))), eAV (spE (b.drop (b.length - x.length)) n) (.sub 0 [] 1 0 (b.length - (spB (b.drop (b.length - x.length)) n).length) (spB (b.drop (b.length - x.length)) n).length), .t (.int .i64 (spE (b.drop (b.length - x.length)) n))]) := if_pos ⟨by have := h.2; omega, hn⟩
  rw [h0, ← h.1]

end Go.Fw

end

section
/- tx: a transaction taken of bytes that are lent: the first number. -/
namespace Go.Fw
open Go Go.Proofs
set_option linter.unusedVariables false
set_option linter.unusedSimpArgs false

noncomputable def G77L : GFun
  | [.by b], [.sub 0 [] 1 0 lo len] => @ite _ ((lo = 0 ∧ len = b.length ∧ b.length ≤ 549755812000 ∧ 4 ≤ b.length)) (Classical.propDecidable _) ((some ([.by b], .tup [.t (.int .u32 (num (spA b 4))), .t (.by (spB b 4)), .t (.int .i64 0)]))) none
  | _, _ => none

theorem ct77L : CT [(95, ⟨[true, false], G95L⟩), (96, ⟨[true], G96L⟩)] [0, 2, 3, 4, 5, 6, 7] [] := ⟨(.cons g95L (.cons g96L (.nil _)))⟩

theorem g77L : GCon Try.prog 77 G77L := by
  refine gconc E_ok (rs := [.tmp 2 24, .tmp 3 22, .tmp 4 29]) Try.func77 rfl Try.ntmps77 (by kernel_rfl) rfl (by decide) G77L (np := 1) ?_ ?_
  · intro HB xs h; unfold G77L; split <;> first | rfl | (simp at h; done)
  intro HB xs H r hG hwf hex
  unfold G77L at hG
  split at hG <;> try (cases hG; done)
  
  rename_i b lo len
  split at hG
  case isFalse => cases hG
  rename_i hc
  obtain ⟨hlo, hlen, hb, h4⟩ := hc
  cases hG
  subst hlo hlen
  have h1 := read_l (Sfx.self b) 4 (by omega)
  rw [Nat.sub_self] at h1
  have he : spE b 4 = 0 := by unfold spE; rw [if_neg (by omega), if_neg (by omega)]
  rw [he, eAV_0] at h1
  have h4' := num_lt4 (spA b 4) (spA_le b 4 4 (by omega))
  have hw : IntKind.u32.wrap (num (spA b 4) : Int) = num (spA b 4) := wrap_u32 (by omega) (by omega)
  have q := spB_sfx (Sfx.self b) 4
  have c2 := copied_l (b := b) (x := spB b 4) (lo := b.length - (spB b 4).length) (by have := q.2; omega) (by omega) (by rw [← q.1, List.take_length])
  repeat refine St (And.intro (And.intro @gentry.eq_1 <| @gentry.eq_2) <| And.intro h1 <| And.intro c2 <| hw) ct77L ?_
  exact AWP.ret (Fin trivial [1] [0])

/-- A reader of bytes that are lent, at its beginning. -/
abbrev rL : Blk := .bx (.st [.own 1, .t (.int .i64 0)])

def G31L : GFun
  | [.bx (.st [.own 1, .t (.int .i64 0)]), .by b], [.ptr 0 0 [], .t (.int .i64 0)] => some ([rL, .by b], .t (.bool true))
  | _, _ => none

theorem ct31L : CT [] [0, 1, 4, 9] [] := ⟨GClOk.nil _⟩

theorem g31L : GCon Try.prog 31 G31L := by
  refine gconc E_ok (rs := [.tmp 4 4]) Try.func31 rfl Try.ntmps31 (by kernel_rfl) rfl (by decide) G31L (np := 2) ?_ ?_
  · intro HB xs h; unfold G31L; split <;> first | rfl | (simp at h; done)
  intro HB xs H r hG hwf hex
  unfold G31L at hG
  split at hG <;> try (cases hG; done)
  
  rename_i b
  cases hG
  repeat refine St (And.intro @gentry.eq_1 <| @gentry.eq_2) ct31L ?_
  exact AWP.ret (Fin trivial [] [0, 1])

noncomputable def G50L : GFun
  | [.bx (.st [.own 1, .t (.int .i64 0)]), .by b], [.ptr 0 0 []] => @ite _ ((b.length ≤ 549755812000 ∧ 4 ≤ b.length)) (Classical.propDecidable _) ((some ([rB ⟨spB b 4, 0⟩, .by b], .t (.int .u32 (num (spA b 4)))))) none
  | _, _ => none

theorem ct50L : CT [(31, ⟨[true, false], G31L⟩), (77, ⟨[true], ownSub G77L⟩)] [0, 2, 3, 4, 5, 18] [] := ⟨(.cons g31L (.cons g77L.ownSub (.nil _)))⟩

theorem g50L : GCon Try.prog 50 G50L := by
  refine gconc E_ok (rs := [.tmp 2 24]) Try.func50 rfl Try.ntmps50 (by kernel_rfl) rfl (by decide) G50L (np := 1) ?_ ?_
  · intro HB xs h; unfold G50L; split <;> first | rfl | (simp at h; done)
  intro HB xs H r hG hwf hex
  unfold G50L at hG
  split at hG <;> try (cases hG; done)
  
  rename_i b
  split at hG
  case isFalse => cases hG
  rename_i hc
  obtain ⟨hb, h4⟩ := hc
  cases hG
  have h1 : ownSub G77L [.by b] [.own 0] = some ([.by b], .tup [.t (.int .u32 (num (spA b 4))), .t (.by (spB b 4)), .t (.int .i64 0)]) := if_pos ⟨rfl, rfl, hb, h4⟩
  have h2 : G31L [rL, .by b] [.ptr 0 0 [], .t (.int .i64 0)] = some ([rL, .by b], .t (.bool true)) := rfl
  repeat refine St (And.intro (And.intro @gentry.eq_1 <| @gentry.eq_2) <| And.intro h1 <| h2) ct50L ?_
  refine AWP.weak (Weak.thawBx (y := .st [.by (spB b 4), .int .i64 0]) 0 rfl rfl) ?_
  exact AWP.ret (Fin trivial [] [0, 1])

end Go.Fw

end

section
/- tx: a transaction, taken of bytes that are lent. -/
namespace Go.Fw
open Go Go.Proofs
set_option linter.unusedVariables false
set_option linter.unusedSimpArgs false

/-- The one contract or the other. -/
def orG (G1 G2 : GFun) : GFun := fun HB xs => match G1 HB xs with
  | some r => some r
  | none => G2 HB xs
theorem GCon.or {P : Program} {f : FuncId} {G1 G2 : GFun} (h1 : GCon P f G1) (h2 : GCon P f G2) : GCon P f (orG G1 G2) := by
  refine ⟨h1.1, fun HB xs H' r hG => ?_⟩
  unfold orG at hG
  split at hG
  · rename_i r' hr
    cases hG
    exact h1.2 _ _ _ _ hr
  · exact h2.2 _ _ _ _ hG

theorem n32_M (s : RSt) (h : s.b.length ≤ 549755812000) : orG G50L G50 [rB s] [.ptr 0 0 []] = some ([rB (rdX true t32 0 s).2], .t (.int .u32 ((rdX true t32 0 s).1.toNat : Int))) := n32_r s h
theorem n32_L (b : List UInt8) (h : b.length ≤ 549755812000) (h4 : 4 ≤ b.length) : orG G50L G50 [rL, .by b] [.ptr 0 0 []] = some ([rB (rdX true t32 0 ⟨b, 0⟩).2, .by b], .t (.int .u32 ((rdX true t32 0 ⟨b, 0⟩).1.toNat : Int))) := by
  have he : spE b 4 = 0 := by unfold spE; rw [if_neg (by omega), if_neg (by omega)]
  have h0 : G50L [rL, .by b] [.ptr 0 0 []] = some ([rB ⟨spB b 4, 0⟩, .by b], .t (.int .u32 (num (spA b 4)))) := if_pos ⟨h, h4⟩
  have h1 : rdX true t32 0 ⟨b, 0⟩ = (UInt32.ofNat (num (spA b 4)), ⟨spB b 4, 0⟩) := rd_3 t32 0 (b := b) he
  rw [h1]
  dsimp only
  rw [u32_num _ (spA_le b 4 4 (by omega))]
  unfold orG
  rw [h0]

noncomputable def G30L : GFun
  | [.bx (.st [.own 1, .t (.int .i64 0)]), .by b], [.ptr 0 0 []] => @ite _ ((b.length ≤ 549755800000 ∧ 4 ≤ b.length)) (Classical.propDecidable _) ((some ([rB (rdTx true ⟨b, 0⟩).2, .by b], .t (txT (rdTx true ⟨b, 0⟩).1)))) none
  | _, _ => none

theorem ct30L : CT [(50, ⟨[true], orG G50L G50⟩), (51, ⟨[true, false], G51⟩), (52, ⟨[true], G52⟩), (53, ⟨[true], G53⟩), (54, ⟨[true], G54⟩), (55, ⟨[true], G55⟩)] [0, 2, 3, 4, 5, 6, 11, 12, 13, 31, 32, 33, 52, 53, 54] [(18, [⟨0, [3], [], []⟩, ⟨0, [56], [], [3]⟩, ⟨0, [6], [], []⟩, ⟨0, [0], [], []⟩, ⟨2, [59], [], [3]⟩, ⟨1, [57, 58], [4], []⟩, ⟨0, [61], [4, 5], []⟩, ⟨2, [60, 62], [4, 5], [3]⟩])] := ⟨(.cons (GCon.or g50L g50) (.cons g51 (.cons g52 (.cons g53 (.cons g54 (.cons g55 (.nil _)))))))⟩

set_option maxHeartbeats 4000000 in
theorem g30L : GCon Try.prog 30 G30L := by
  refine gconc E_ok (rs := [.cell 2 28]) Try.func30 rfl Try.ntmps30 (by kernel_rfl) rfl (by decide) G30L (np := 1) ?_ ?_
  · intro HB xs h; unfold G30L; split <;> first | rfl | (simp at h; done)
  intro HB xs H r hG hwf hex
  unfold G30L at hG
  split at hG <;> try (cases hG; done)
  
  rename_i b
  split at hG
  case isFalse => cases hG
  rename_i hc
  obtain ⟨hb, h4⟩ := hc
  cases hG
  have l1 := rdX_len (P := true) (d := 0) (s := ⟨b, 0⟩) t32_len
  obtain ⟨v, s1, e1⟩ : ∃ v s1, rdX true t32 0 ⟨b, 0⟩ = (v, s1) := ⟨_, _, rfl⟩
  rw [e1] at l1
  replace l1 : s1.b.length ≤ 549755800000 := Nat.le_trans l1 hb
  have l2 := cnt_len (P := true) (m := 20) (s := s1)
  have hn := cnt_most true 20 s1
  obtain ⟨n, s2, e2⟩ : ∃ v s1', rdCnt true 20 s1 = (v, s1') := ⟨_, _, rfl⟩
  rw [e2] at l2 hn
  replace l2 : s2.b.length ≤ 549755800000 := Nat.le_trans l2 l1
  dsimp only at hn
  have hlen : ∀ {α : Type} (f : RSt → α × RSt) (hf : ∀ s, (f s).2.b.length ≤ s.b.length) (s : RSt), s.b.length ≤ 549755800000 → ∀ i, (rdN f i s).2.b.length ≤ 549755800000 := fun f hf s hs i => by
    induction i with
    | zero => exact hs
    | succ i ih => rw [rdN_snoc]; exact Nat.le_trans (hf _) ih
  have hfin : ∀ s, (rdIn true s).2.b.length ≤ s.b.length := fun s => Nat.le_trans (rdX_len t32_len) (Nat.le_trans (rdX_len t32_len) (rdX_len tH_len))
  have hfout : ∀ s, (rdOut true s).2.b.length ≤ s.b.length := fun s => Nat.le_trans (rdX_len tScr_len) (rdX_len t64_len)
  have hfwit : ∀ s, (rdWit true s).2.b.length ≤ s.b.length := fun s => rdX_len tWit_len
  have lis := hlen (rdIn true) hfin s2 l2
  obtain ⟨is, s3, e3⟩ : ∃ is s3, rdN (rdIn true) n s2 = (is, s3) := ⟨_, _, rfl⟩
  have l3 : s3.b.length ≤ 549755800000 := by have := lis n; rw [e3] at this; exact this
  have l4 := cnt_len (P := true) (m := 20) (s := s3)
  have hm := cnt_most true 20 s3
  obtain ⟨m, s4, e4⟩ : ∃ v s1', rdCnt true 20 s3 = (v, s1') := ⟨_, _, rfl⟩
  rw [e4] at l4 hm
  replace l4 : s4.b.length ≤ 549755800000 := Nat.le_trans l4 l3
  dsimp only at hm
  have los := hlen (rdOut true) hfout s4 l4
  obtain ⟨os, s5, e5⟩ : ∃ is s3, rdN (rdOut true) m s4 = (is, s3) := ⟨_, _, rfl⟩
  have l5 : s5.b.length ≤ 549755800000 := by have := los m; rw [e5] at this; exact this
  have l6 := rdX_len (P := true) (d := 0) (s := s5) t32_len
  obtain ⟨k, s6, e6⟩ : ∃ v s1, rdX true t32 0 s5 = (v, s1) := ⟨_, _, rfl⟩
  rw [e6] at l6
  replace l6 : s6.b.length ≤ 549755800000 := Nat.le_trans l6 l5
  have lws := hlen (rdWit true) hfwit s6 l6
  have hil : is.length = n := by have := rdN_len (rdIn true) n s2; rw [e3] at this; exact this
  have hol : os.length = m := by have := rdN_len (rdOut true) m s4; rw [e5] at this; exact this
  have hall : rdTx true ⟨b, 0⟩ = (⟨v, wits is (rdN (rdWit true) is.length s6).1, os, k⟩, (rdN (rdWit true) is.length s6).2) := by
    unfold rdTx; simp only [e1, e2, e3, e4, e5, e6]
  rw [hall]
  have q1 := n32_L b (Nat.le_trans hb (by omega)) h4
  rw [e1] at q1
  have q2 := count_r s1 (by omega)
  rw [e2] at q2
  dsimp only at q1 q2
  repeat refine St (And.intro (And.intro @gentry.eq_1 <| @gentry.eq_2) <| And.intro q1 <| q2) ct30L ?_
  refine AWP.weak (Weak.ownBx (v' := _) 3 [1] 1 (.sq 35 []) rfl (by simp only [W, eqq, ↓reduceIte, Nat.reduceEqDiff, Nat.reduceLT, Nat.reduceLeDiff, Nat.reduceAdd, Nat.reduceMul, Nat.reduceSub, Nat.reduceBEq, Int.reduceLE, Int.reduceLT, Int.reduceNeg, Int.reduceToNat, Int.reduceEq, Int.reduceBEq, Int.reduceBNe, Nat.reduceBNe, bne_self_eq_false, reduceCtorEq, gt_iff_lt, ge_iff_le]) (by simp only [W, eqq, ↓reduceIte, Nat.reduceEqDiff, Nat.reduceLT, Nat.reduceLeDiff, Nat.reduceAdd, Nat.reduceMul, Nat.reduceSub, Nat.reduceBEq, Int.reduceLE, Int.reduceLT, Int.reduceNeg, Int.reduceToNat, Int.reduceEq, Int.reduceBEq, Int.reduceBNe, Nat.reduceBNe, bne_self_eq_false, reduceCtorEq, gt_iff_lt, ge_iff_le]) (by simp only [W, eqq, ↓reduceIte, Nat.reduceEqDiff, Nat.reduceLT, Nat.reduceLeDiff, Nat.reduceAdd, Nat.reduceMul, Nat.reduceSub, Nat.reduceBEq, Int.reduceLE, Int.reduceLT, Int.reduceNeg, Int.reduceToNat, Int.reduceEq, Int.reduceBEq, Int.reduceBNe, Nat.reduceBNe, bne_self_eq_false, reduceCtorEq, gt_iff_lt, ge_iff_le]; rfl) (.inr ⟨_, by decide, rfl⟩)) ?_
  refine AWP.loop (G := { i : Nat // i ≤ n }) (fun i => ⟨[(0, .ptr 0 0 []), (2, .ptr 2 0 []), (3, .ptr 3 0 []), (11, .t (.int .i64 (n : Int))), (12, .t (.int .i64 (i.1 : Int)))], [rB (rdN (rdIn true) i.1 s2).2, .by b, .bx (.t (.st [.int .u32 0, .nil, .nil, .int .u32 0])), .bx (.st [.t (.int .u32 (v.toNat : Int)), .own 4, .t .nil, .t (.int .u32 0)]), .sq 35 ((rdN (rdIn true) i.1 s2).1.map inT)]⟩) (fun i => n - i.1) ⟨0, by omega⟩ (Wt (And.intro (And.intro @rdN.eq_1 <| @rdN.eq_2) <| @List.map_nil.{0, 0}) [0, 2, 3, 11, 12] [0, 1, 2, 3, 4]) ?_
  intro ⟨i, hi⟩
  dsimp only
  have hsn := rdN_snoc (rdIn true) i s2
  have hln := rdN_len (rdIn true) i s2
  have hli := lis i
  have h3i : i = n → rdN (rdIn true) i s2 = (is, s3) := fun h => h ▸ e3
  generalize rdN (rdIn true) i s2 = R at *
  obtain ⟨acc, s⟩ := R
  dsimp only at hsn hln hli h3i ⊢
  by_cases hlt : (i : Int) < (n : Int)
  · have p1 := hash_r s (by omega)
    have l1' := rdX_len (P := true) (d := zH) (s := s) tH_len
    have hf : rdIn true s = (⟨(rdX true tH zH s).1, (rdX true t32 0 (rdX true tH zH s).2).1, (rdX true t32 0 (rdX true t32 0 (rdX true tH zH s).2).2).1, []⟩, (rdX true t32 0 (rdX true t32 0 (rdX true tH zH s).2).2).2) := rfl
    obtain ⟨h, t1, r1⟩ : ∃ v s1, rdX true tH zH s = (v, s1) := ⟨_, _, rfl⟩
    rw [r1] at p1 l1' hf
    dsimp only at p1 l1' hf
    have p2 := n32_M t1 (by omega)
    have l2' := rdX_len (P := true) (d := 0) (s := t1) t32_len
    obtain ⟨j, t2, r2⟩ : ∃ v s1, rdX true t32 0 t1 = (v, s1) := ⟨_, _, rfl⟩
    rw [r2] at p2 l2' hf
    dsimp only at p2 l2' hf
    have p3 := n32_M t2 (by omega)
    obtain ⟨q, t3, r3⟩ : ∃ v s1, rdX true t32 0 t2 = (v, s1) := ⟨_, _, rfl⟩
    rw [r3] at p3 hf
    dsimp only at p3 hf
    rw [hf] at hsn
    dsimp only at hsn
    have h32 := h.2
    iterate 9 (try refine St (And.intro hlt <| And.intro p1 <| And.intro p2 <| And.intro p3 <| h32) ct30L ?_)
    refine AWP.weak (Wn 5 [2] 34 (.sq 1 [])) ?_
    have hin : inT ⟨h, j, q, []⟩ = .st [.st [.ba 32 h.1, .int .u32 (j.toNat : Int)], .int .u32 (q.toNat : Int), .sq 1 []] := rfl
    have hmm : (acc ++ [(⟨h, j, q, []⟩ : TIn)]).map inT = acc.map inT ++ [.st [.st [.ba 32 h.1, .int .u32 (j.toNat : Int)], .int .u32 (q.toNat : Int), .sq 1 []]] := by rw [List.map_append, List.map_cons, List.map_nil, hin]
    have hal : (acc.map inT).length ≤ 1000 := by rw [List.length_map]; omega
    repeat refine St (And.intro p3 <| And.intro h32 <| hal) ct30L ?_
    exact ⟨⟨i + 1, by omega⟩, (Wt (And.intro hsn <| hmm) [0, 2, 3, 11, 12] [0, 1, 2, 3, 7]), by simp only; omega⟩
  obtain rfl : i = n := by omega
  have h3e := h3i rfl
  cases h3e
  have q4 := count_r s3 (by omega)
  rw [e4] at q4
  dsimp only at q4
  repeat refine St (And.intro hlt <| q4) ct30L ?_
  refine AWP.weak (Weak.ownBx (v' := _) 3 [2] 2 (.sq 2 []) rfl (by simp only [W, eqq, ↓reduceIte, Nat.reduceEqDiff, Nat.reduceLT, Nat.reduceLeDiff, Nat.reduceAdd, Nat.reduceMul, Nat.reduceSub, Nat.reduceBEq, Int.reduceLE, Int.reduceLT, Int.reduceNeg, Int.reduceToNat, Int.reduceEq, Int.reduceBEq, Int.reduceBNe, Nat.reduceBNe, bne_self_eq_false, reduceCtorEq, gt_iff_lt, ge_iff_le]) (by simp only [W, eqq, ↓reduceIte, Nat.reduceEqDiff, Nat.reduceLT, Nat.reduceLeDiff, Nat.reduceAdd, Nat.reduceMul, Nat.reduceSub, Nat.reduceBEq, Int.reduceLE, Int.reduceLT, Int.reduceNeg, Int.reduceToNat, Int.reduceEq, Int.reduceBEq, Int.reduceBNe, Nat.reduceBNe, bne_self_eq_false, reduceCtorEq, gt_iff_lt, ge_iff_le]) (by simp only [W, eqq, ↓reduceIte, Nat.reduceEqDiff, Nat.reduceLT, Nat.reduceLeDiff, Nat.reduceAdd, Nat.reduceMul, Nat.reduceSub, Nat.reduceBEq, Int.reduceLE, Int.reduceLT, Int.reduceNeg, Int.reduceToNat, Int.reduceEq, Int.reduceBEq, Int.reduceBNe, Nat.reduceBNe, bne_self_eq_false, reduceCtorEq, gt_iff_lt, ge_iff_le]; rfl) (.inr ⟨_, by decide, rfl⟩)) ?_
  refine AWP.loop (G := { i : Nat // i ≤ m }) (fun i => ⟨[(0, .ptr 0 0 []), (2, .ptr 2 0 []), (3, .ptr 3 0 []), (31, .t (.int .i64 (m : Int))), (32, .t (.int .i64 (i.1 : Int)))], [rB (rdN (rdOut true) i.1 s4).2, .by b, .bx (.t (.st [.int .u32 0, .nil, .nil, .int .u32 0])), .bx (.st [.t (.int .u32 (v.toNat : Int)), .own 4, .own 5, .t (.int .u32 0)]), .sq 35 (is.map inT), .sq 2 ((rdN (rdOut true) i.1 s4).1.map outT)]⟩) (fun i => m - i.1) ⟨0, by omega⟩ (Wt (And.intro (And.intro @rdN.eq_1 <| @rdN.eq_2) <| @List.map_nil.{0, 0}) [0, 2, 3, 31, 32] [0, 1, 2, 3, 4, 5]) ?_
  intro ⟨i, hi⟩
  dsimp only
  have hsn := rdN_snoc (rdOut true) i s4
  have hln := rdN_len (rdOut true) i s4
  have hli := los i
  have h5i : i = m → rdN (rdOut true) i s4 = (os, s5) := fun h => h ▸ e5
  generalize rdN (rdOut true) i s4 = R at *
  obtain ⟨acc, s⟩ := R
  dsimp only at hsn hln hli h5i ⊢
  by_cases hlt : (i : Int) < (m : Int)
  · have p1 := n64_r s (by omega)
    have l1' := rdX_len (P := true) (d := 0) (s := s) t64_len
    have hf : rdOut true s = (⟨(rdX true t64 0 s).1, (rdX true tScr [] (rdX true t64 0 s).2).1⟩, (rdX true tScr [] (rdX true t64 0 s).2).2) := rfl
    obtain ⟨h, t1, r1⟩ : ∃ v s1, rdX true t64 0 s = (v, s1) := ⟨_, _, rfl⟩
    rw [r1] at p1 l1' hf
    dsimp only at p1 l1' hf
    have p2 := script_r t1 (by omega)
    obtain ⟨q, t3, r3⟩ : ∃ v s1, rdX true tScr [] t1 = (v, s1) := ⟨_, _, rfl⟩
    rw [r3] at p2 hf
    dsimp only at p2 hf
    rw [hf] at hsn
    dsimp only at hsn
    have hmm : (acc ++ [(⟨h, q⟩ : TOut)]).map outT = acc.map outT ++ [.st [.int .u64 (h.toNat : Int), .by q]] := by rw [List.map_append]; rfl
    have hal : (acc.map outT).length ≤ 1000 := by rw [List.length_map]; omega
    repeat refine St (And.intro hlt <| And.intro p1 <| And.intro p2 <| hal) ct30L ?_
    exact ⟨⟨i + 1, by omega⟩, (Wt (And.intro hsn <| hmm) [0, 2, 3, 31, 32] [0, 1, 2, 3, 4, 8]), by simp only; omega⟩
  obtain rfl : i = m := by omega
  have h5e := h5i rfl
  cases h5e
  have q6 := n32_M s5 (by omega)
  rw [e6] at q6
  dsimp only at q6
  have his : is.length ≤ 1000 := by omega
  repeat refine St (And.intro hlt <| q6) ct30L ?_
  refine AWP.loop (G := { i : Nat // i ≤ is.length }) (fun i => ⟨[(0, .ptr 0 0 []), (2, .ptr 2 0 []), (3, .ptr 3 0 []), (52, .t (.int .i64 (is.length : Int))), (53, .t (.int .i64 (i.1 : Int)))], [rB (rdN (rdWit true) i.1 s6).2, .by b, .bx (.t (.st [.int .u32 0, .nil, .nil, .int .u32 0])), .bx (.st [.t (.int .u32 (v.toNat : Int)), .own 4, .own 5, .t (.int .u32 (k.toNat : Int))]), .sq 35 ((wits is (rdN (rdWit true) i.1 s6).1).map inT), .sq 2 (os.map outT)]⟩) (fun i => is.length - i.1) ⟨0, by omega⟩ (Wt (And.intro (And.intro @rdN.eq_1 <| @rdN.eq_2) <| @wits_nil) [0, 2, 3, 52, 53] [0, 1, 2, 3, 4, 5]) ?_
  intro ⟨i, hi⟩
  dsimp only
  have hsn := rdN_snoc (rdWit true) i s6
  have hln := rdN_len (rdWit true) i s6
  have hli := lws i
  by_cases hlt : (i : Int) < (is.length : Int)
  · generalize rdN (rdWit true) i s6 = R at *
    obtain ⟨acc, s⟩ := R
    dsimp only at hsn hln hli ⊢
    have hlt' : i < is.length := by omega
    have p1 := wit_r s (by omega)
    obtain ⟨w, t1, r1⟩ : ∃ v s1, rdWit true s = (v, s1) := ⟨_, _, rfl⟩
    rw [r1] at p1 hsn
    dsimp only at p1 hsn
    obtain ⟨hget, hset⟩ := wits_set is acc w i hln hlt'
    generalize is.getD i dIn = x at hget hset
    have hget' : ((wits is acc).map inT).getD i default = T.st [.st [.ba 32 x.prev.1, .int .u32 (x.idx.toNat : Int)], .int .u32 (x.seq.toNat : Int), .sq 1 (x.wit.map .by)] := hget
    have hset' : ((wits is acc).map inT).set i (T.st [.st [.ba 32 x.prev.1, .int .u32 (x.idx.toNat : Int)], .int .u32 (x.seq.toNat : Int), .sq 1 (w.map .by)]) = (wits is (acc ++ [w])).map inT := hset
    have hwl : i < (wits is acc).length := by rw [wits_len]; exact hlt'
    have h32 := x.prev.2
    repeat refine St (And.intro hlt <| And.intro p1 <| And.intro hwl <| And.intro hget' <| And.intro hset' <| h32) ct30L ?_
    exact ⟨⟨i + 1, by omega⟩, (Wt hsn [0, 2, 3, 52, 53] [0, 1, 2, 3, 4, 5]), by simp only; omega⟩
  obtain rfl : i = is.length := by omega
  repeat refine St hlt ct30L ?_
  exact AWP.ret (Fin @txT.eq_def [4, 5] [0, 1])

end Go.Fw

end

section
/- tx: Take of bytes that are lent. -/
namespace Go.Fw
open Go Go.Proofs
set_option linter.unusedVariables false
set_option linter.unusedSimpArgs false

theorem tx_L (b : List UInt8) (h : b.length ≤ 549755800000) (h4 : 4 ≤ b.length) : G30L [rL, .by b] [.ptr 0 0 []] = some ([rB (rdTx true ⟨b, 0⟩).2, .by b], .t (txT (rdTx true ⟨b, 0⟩).1)) := if_pos ⟨h, h4⟩

noncomputable def G10L : GFun
  | [.by b], [.own 0] => match takTx b with
    | .ok t x => @ite _ ((b.length ≤ 549755800000 ∧ 4 ≤ b.length)) (Classical.propDecidable _) ((some ([.by b], .tup [.t (txT t), .t (.by x), .t (.int .i64 0)]))) none
    | .err _ => none
  | _, _ => none

theorem ct10L : CT [(30, ⟨[true], G30L⟩), (31, ⟨[true, false], G31⟩)] [0, 2, 3, 4, 5, 6, 20, 27] [(6, [⟨1, [], [], []⟩, ⟨0, [5], [], []⟩, ⟨0, [29], [], []⟩, ⟨0, [30], [], []⟩, ⟨0, [31], [], [2]⟩, ⟨2, [2, 28], [0], [2]⟩, ⟨0, [], [0, 5], []⟩, ⟨0, [32], [0, 5], []⟩]), (7, [⟨0, [6], [], [2, 3]⟩, ⟨0, [5], [], []⟩, ⟨0, [34], [], []⟩, ⟨0, [35], [], []⟩, ⟨0, [36], [], [2, 3]⟩, ⟨2, [37], [], [2, 3]⟩, ⟨2, [2, 33], [5], [2, 3]⟩, ⟨0, [38], [5, 6], []⟩, ⟨0, [], [5, 6], []⟩])] := ⟨(.cons g30L (.cons g31 (.nil _)))⟩

set_option maxHeartbeats 1000000 in
theorem g10L : GCon Try.prog 10 G10L := by
  refine gconc E_ok (rs := [.cell 2 28, .tmp 3 22, .tmp 4 29]) Try.func10 rfl Try.ntmps10 (by kernel_rfl) rfl (by decide) G10L (np := 1) ?_ ?_
  · intro HB xs h; unfold G10L; split <;> first | rfl | (simp at h; done)
  intro HB xs H r hG hwf hex
  unfold G10L at hG
  split at hG <;> try (cases hG; done)
  
  rename_i b
  split at hG <;> try (cases hG; done)
  rename_i t0 x0 htk
  split at hG
  case isFalse => cases hG
  rename_i hc
  obtain ⟨hb, h4⟩ := hc
  cases hG
  have h1 := tx_L b hb h4
  have hl := rdTx_len (P := true) ⟨b, 0⟩
  have hgo := (goodTx true).ok b
  have hge := (goodTx true).err b
  cases hp : pTx b with
  | ok t x =>
    rw [hgo t x hp] at h1 hl
    dsimp only at h1 hl
    have hw : IntKind.i64.wrap ((b.length : Int) - (x.length : Int)) = ((b.length - x.length : Nat) : Int) := by rw [wrap_i64 (by omega) (by omega)]; omega
    by_cases h2 : b.length - x.length ≤ 12000
    · have h3 : ¬ 12000 < ((b.length - x.length : Nat) : Int) := by omega
      have e : takTx b = .ok t x := by unfold takTx; rw [hp]; exact if_pos h2
      rw [e] at htk
      cases htk
      rw [txT_st] at h1 ⊢
      have hrl : x0.length ≤ 549755800000 := by omega
      repeat refine St (And.intro (And.intro @gentry.eq_1 <| @gentry.eq_2) <| And.intro h1 <| And.intro hw <| And.intro h3 <| hrl) ct10L ?_
      exact AWP.ret (Fin trivial [4] [0])
    · have e : takTx b = .err 4 := by unfold takTx; rw [hp]; exact if_neg h2
      rw [e] at htk
      cases htk
  | err e =>
    have e : takTx b = .err e := by unfold takTx; rw [hp]
    rw [e] at htk
    cases htk

theorem take_L {b : List UInt8} {t : TTx} {x : List UInt8} (h : takTx b = .ok t x) (hb : b.length ≤ 549755800000) (h4 : 4 ≤ b.length) : G10L [.by b] [.own 0] = some ([.by b], .tup ([txT t, .by x, .int .i64 0].map .t)) := by
  simp only [G10L, h]
  exact if_pos ⟨hb, h4⟩

end Go.Fw

end

section
/- Chapter 9: TxTake: the scripts that were told are overwritten. -/
namespace Go.Fw
open Go Go.Proofs Go.RowKit
set_option linter.unusedVariables false
set_option linter.unusedSimpArgs false

/-- The loops of TxTake. -/
noncomputable def spoilC : Code := fstC (sndC (sndC (sndC (sndC (sndC (sndC (sndC (sndC (Try.f3.body.getD .skip)))))))))

set_option maxRecDepth 8000 in
set_option maxHeartbeats 4000000 in
theorem spoil {c : Ctx} (hk : c.k = 0) {Mb : Nat → Option Obj} (hcM : MLe c.M0 Mb) {m : Mem} {w : World} {a : Act} {us : List Value} {tx : TTx} (hul : us.length = tx.outs.length) {v3 v4 vb h1 h2 : Value} (hI : Inv c m w []) (hS : RelS m 108 a [(14, .t (.bool true))])
    (h0 : a.tmps.getD 0 undef = vb) (h3 : a.tmps.getD 3 undef = v3) (h4 : a.tmps.getD 4 undef = v4) (hM : MLe Mb m.M) (hR : RelT m.M (.sq 2 (outsO tx.outs us)) h2) (hF : ∀ u ∈ us, Scr c.w0.heap.size Mb m.M u)
    (hip : ∀ m' : Mem, MLe Mb m'.M → RelT m'.M (.sq 2 (outsO tx.outs us)) h2 → RelA m' (.ip (.st [.int .u32 (tx.ver.toNat : Int), .op h1, .sq 2 (outsO tx.outs us), .int .u32 (tx.lock.toNat : Int)])) v4)
    {K : Exit → Act → World → Prop} (hK : ∀ m' w' a', Inv c m' w' [] → RelS m' 108 a' [(14, .t (.bool true))] → a'.tmps.getD 0 undef = vb → a'.tmps.getD 3 undef = v3 → MLe Mb m'.M → K .normal a' w') : spoilC.wpIn Fence.wide 0 Try.prog K a w := by
  have hlen : us.length ≤ maxLen := by
    have := hR.wf
    simp only [T.wf, outsO_len hul] at this
    rw [hul]
    exact this.2.1
  unfold maxLen at hlen
  have hXl : (outsO tx.outs us).length = us.length := (outsO_len hul).trans hul.symm
  have hrow4 : ∀ {m : Mem} {a : Act} {s : Slots}, RelS m 108 a s → a.tmps.getD 4 undef = v4 → MLe Mb m.M → RelT m.M (.sq 2 (outsO tx.outs us)) h2 → RelS m 108 a ((4, .ip (.st [.int .u32 (tx.ver.toNat : Int), .op h1, .sq 2 (outsO tx.outs us), .int .u32 (tx.lock.toNat : Int)])) :: s) := fun {m a s} h g1 g2 g3 =>
    ⟨h.1, h.2.1, fun j => by
      by_cases e : j = 4
      · subst e
        rw [g1]
        exact hip m g2 g3
      · simp only [lk, if_neg e]
        exact h.2.2 j⟩
  dsimp only [spoilC, sndC, fstC, Try.f3, Option.getD]
  have hI0 := hI
  have b0 := h0
  have c0 := h3
  have d0 := h4
  have hM0 := hM
  have hR0 := hR
  have hF0 := hF
  have s0 := hS
  clear hI h0 h3 h4 hM hR hF hS
  obtain ⟨m0, hm0⟩ : ∃ m0, m0 = m := ⟨_, rfl⟩
  obtain ⟨w0, hw0⟩ : ∃ w0, w0 = w := ⟨_, rfl⟩
  rw [← hm0] at hI0 hM0 hR0 hF0 s0
  rw [← hw0] at hI0 ⊢
  clear hm0 hw0
  refine wpIn_seq ?_
  refine reg_step X_ok (GClOk.nil _) (S := ⟨_, _⟩) (c := ctxK w0 m0 [] 0) rfl (Ev trivial) (inv_ctxK hI0 (by simp)) (hrow4 s0 d0 hM0 hR0) (fun i => i = 0 ∨ i = 3 ∨ i = 4) (by rintro i (rfl | rfl | rfl) o ho <;> (revert o; decide)) (fun m1 w1 a1 i1 r1 k1 => ?_)
  have hI1 : Inv c m1 w1 [] := inv_comp hI0 (by omega) i1
  have b1 := (k1 0 (.inl rfl)).trans b0
  have c1 := (k1 3 (.inr (.inl rfl))).trans c0
  have d1 := (k1 4 (.inr (.inr rfl))).trans d0
  have hM1 := hM0.trans i1.le
  have hR1 := hR0.mono i1.le
  have hF1 : ∀ u ∈ us, Scr c.w0.heap.size Mb m1.M u := fun u hu => (hF0 u hu).mono i1.le
  have s1 : RelS m1 108 a1 [(15, .t (.int .i64 0)), (14, .t (.bool true))] := r1.prune [15, 14]
  clear i1 k1 hI0 b0 c0 d0 hM0 hR0 hF0 s0
  refine wpIn_block ?_
  refine wpIn_loop (fun a w => ∃ i m, i ≤ us.length ∧ Inv c m w [] ∧ RelS m 108 a [(15, .t (.int .i64 ((i : Nat) : Int))), (14, .t (.bool true))] ∧ a.tmps.getD 0 undef = vb ∧ a.tmps.getD 3 undef = v3 ∧ a.tmps.getD 4 undef = v4 ∧ MLe Mb m.M ∧ RelT m.M (.sq 2 (outsO tx.outs us)) h2 ∧ ∀ u ∈ us, Scr c.w0.heap.size Mb m.M u) (fun a _ => cntS us.length 15 a) ⟨0, m1, Nat.zero_le _, hI1, s1, b1, c1, d1, hM1, hR1, hF1⟩ ?_
  clear hI1 s1 b1 c1 d1 hM1 hR1 hF1
  rintro a2 w2 ⟨i, m2, hi, hI2, s2, b2, c2, d2, hM2, hR2, hF2⟩
  have hcnt := cntS_val (n := us.length) s2 (z := i) (j := 15) rfl
  by_cases hlt : i < us.length
  rotate_left
  · obtain rfl : i = us.length := by omega
    have hlt2 : ((us.length : Int) < (us.length : Int)) = False := by simp
    refine wpIn_seq (wpIn_seq ?_)
    refine reg_step X_ok (GClOk.nil _) (S := ⟨_, _⟩) (c := ctxK w2 m2 [] 0) rfl (Ev (And.intro hlt2 hXl)) (inv_ctxK hI2 (by simp)) (hrow4 s2 d2 hM2 hR2) (fun i => i = 0 ∨ i = 3 ∨ i = 4) (by rintro i (rfl | rfl | rfl) o ho <;> (revert o; decide)) (fun m3 w3 a3 i3 r3 k3 => ?_)
    refine wpIn_cond_false ((r3.2.2 75).bool_inv) (wpIn_exit ?_)
    have hI3 : Inv c m3 w3 [] := inv_comp hI2 (by omega) i3
    have b3 := (k3 0 (.inl rfl)).trans b2
    have c3 := (k3 3 (.inr (.inl rfl))).trans c2
    have d3 := (k3 4 (.inr (.inr rfl))).trans d2
    have hM3 := hM2.trans i3.le
    have hR3 := hR2.mono i3.le
    have hF3 : ∀ u ∈ us, Scr c.w0.heap.size Mb m3.M u := fun u hu => (hF2 u hu).mono i3.le
    have s3 : RelS m3 108 a3 [(14, .t (.bool true))] := r3.prune [14]
    clear i3 k3 hI2 b2 c2 d2 hM2 hR2 hF2 s2
    show K _ _ _
    exact hK m3 w3 a3 hI3 s3 b3 c3 hM3
  have hlt2 : (i : Int) < (us.length : Int) := by omega
  refine wpIn_seq (wpIn_seq ?_)
  refine reg_step X_ok (GClOk.nil _) (S := ⟨_, _⟩) (c := ctxK w2 m2 [] 0) rfl (Ev (And.intro hlt2 hXl)) (inv_ctxK hI2 (by simp)) (hrow4 s2 d2 hM2 hR2) (fun i => i = 0 ∨ i = 3 ∨ i = 4) (by rintro i (rfl | rfl | rfl) o ho <;> (revert o; decide)) (fun m3 w3 a3 i3 r3 k3 => ?_)
  refine wpIn_cond_true ((r3.2.2 75).bool_inv) (wpIn_skip ?_)
  have hI3 : Inv c m3 w3 [] := inv_comp hI2 (by omega) i3
  have b3 := (k3 0 (.inl rfl)).trans b2
  have c3 := (k3 3 (.inr (.inl rfl))).trans c2
  have d3 := (k3 4 (.inr (.inr rfl))).trans d2
  have hM3 := hM2.trans i3.le
  have hR3 := hR2.mono i3.le
  have hF3 : ∀ u ∈ us, Scr c.w0.heap.size Mb m3.M u := fun u hu => (hF2 u hu).mono i3.le
  have s3 : RelS m3 108 a3 [(15, .t (.int .i64 ((i : Nat) : Int))), (14, .t (.bool true))] := r3.prune [15, 14]
  clear i3 k3 hI2 b2 c2 d2 hM2 hR2 hF2 s2
  clear r3
  refine wpIn_seq (wpIn_block (wpIn_seq ?_))
  refine reg_step X_ok (GClOk.nil _) (S := ⟨_, _⟩) (c := ctxK w3 m3 [] 0) rfl (Ev trivial) (inv_ctxK hI3 (by simp)) (hrow4 s3 d3 hM3 hR3) (fun i => i = 0 ∨ i = 3 ∨ i = 4) (by rintro i (rfl | rfl | rfl) o ho <;> (revert o; decide)) (fun m4 w4 a4 i4 r4 k4 => ?_)
  have hI4 : Inv c m4 w4 [] := inv_comp hI3 (by omega) i4
  have b4 := (k4 0 (.inl rfl)).trans b3
  have c4 := (k4 3 (.inr (.inl rfl))).trans c3
  have d4 := (k4 4 (.inr (.inr rfl))).trans d3
  have hM4 := hM3.trans i4.le
  have hR4 := hR3.mono i4.le
  have hF4 : ∀ u ∈ us, Scr c.w0.heap.size Mb m4.M u := fun u hu => (hF3 u hu).mono i4.le
  have s4 : RelS m4 108 a4 [(16, .t (.int .i64 0)), (15, .t (.int .i64 ((i : Nat) : Int))), (14, .t (.bool true))] := r4.prune [16, 15, 14]
  clear i4 k4 hI3 b3 c3 d3 hM3 hR3 hF3 s3
  clear r4
  have hg := outsO_get hul (i := i) (by omega)
  have hmem := mem_getD hlt
  obtain ⟨u, hu⟩ : ∃ u, u = us.getD i undef := ⟨_, rfl⟩
  rw [← hu] at hg hmem
  unfold outO at hg
  have hltx : i < tx.outs.length := by omega
  have hlX : i < (outsO tx.outs us).length := by omega
  have hXi : ((outsO tx.outs us).length : Int) = (us.length : Int) := by omega
  obtain ⟨sl, hsl⟩ : ∃ sl : Nat, ∃ ad cap, u = .slice ad sl cap := by
    obtain ⟨ad, len, cap, h, _⟩ := hF4 u hmem
    exact ⟨len, ad, cap, h⟩
  obtain ⟨ad, cap, hsl⟩ := hsl
  refine wpIn_block ?_
  refine wpIn_loop (fun a w => ∃ k m, k ≤ sl ∧ Inv c m w [] ∧ RelS m 108 a [(16, .t (.int .i64 ((k : Nat) : Int))), (15, .t (.int .i64 ((i : Nat) : Int))), (14, .t (.bool true))] ∧ a.tmps.getD 0 undef = vb ∧ a.tmps.getD 3 undef = v3 ∧ a.tmps.getD 4 undef = v4 ∧ MLe Mb m.M ∧ RelT m.M (.sq 2 (outsO tx.outs us)) h2 ∧ ∀ u ∈ us, Scr c.w0.heap.size Mb m.M u) (fun a _ => cntS sl 16 a) ⟨0, m4, Nat.zero_le _, hI4, s4, b4, c4, d4, hM4, hR4, hF4⟩ ?_
  clear hI4 s4 b4 c4 d4 hM4 hR4 hF4
  rintro a5 w5 ⟨k, m5, hk5, hI5, s5, b5, c5, d5, hM5, hR5, hF5⟩
  have hcnt5 := cntS_val (n := sl) s5 (z := k) (j := 16) rfl
  refine wpIn_seq (wpIn_seq (wpIn_region_lit ?_))
  refine reg_pre X_ok (GClOk.nil _) (pre := [_, _, _, _, _, _, _]) (rest := [_, _]) (S := ⟨_, _⟩) (c := ctxK w5 m5 [] 0) rfl (Ev (And.intro hlt <| And.intro hlt2 <| And.intro hXl <| And.intro hlX hg)) (inv_ctxK hI5 (by simp)) (hrow4 s5 d5 hM5 hR5) (fun i => i = 0 ∨ i = 3 ∨ i = 4) (by rintro i (rfl | rfl | rfl) o ho <;> (revert o; decide)) (fun m6 w6 a6 i6 r6 k6 => ?_)
  have v84 : a6.eval (.tmp 84) = .slice ad sl cap := by
    rw [← hsl]
    exact (show RelA m6 (.t (.op u)) (a6.tmps.getD 84 undef) from r6.2.2 84).t_inv.op_inv
  have hI6 : Inv c m6 w6 [] := inv_comp hI5 (by omega) i6
  have b6 := (k6 0 (.inl rfl)).trans b5
  have c6 := (k6 3 (.inr (.inl rfl))).trans c5
  have d6 := (k6 4 (.inr (.inr rfl))).trans d5
  have hM6 := hM5.trans i6.le
  have hR6 := hR5.mono i6.le
  have hF6 : ∀ u ∈ us, Scr c.w0.heap.size Mb m6.M u := fun u hu => (hF5 u hu).mono i6.le
  have s6 : RelS m6 108 a6 [(78, .t (.int .i64 ((k : Nat) : Int))), (16, .t (.int .i64 ((k : Nat) : Int))), (15, .t (.int .i64 ((i : Nat) : Int))), (14, .t (.bool true))] := r6.prune [78, 16, 15, 14]
  clear i6 k6 hI5 b5 c5 d5 hM5 hR5 hF5 s5
  clear r6
  have slm : sl ≤ maxLen := by
    obtain ⟨ad', len', cap', h1, h2, _⟩ := hF6 u hmem
    rw [hsl] at h1; cases h1; exact h2
  have hin : inK .i64 (sl : Int) := by unfold maxLen at slm; simp [inK, IntKind.min, IntKind.max, IntKind.signed, IntKind.bits]; omega
  refine wl_len E_ok rfl rfl (e := 5) rfl v84 ?_
  have s7 : RelS m6 108 (a6.put (some 85) (.int .i64 (sl : Int))) [(85, .t (.int .i64 (sl : Int))), (78, .t (.int .i64 ((k : Nat) : Int))), (16, .t (.int .i64 ((k : Nat) : Int))), (15, .t (.int .i64 ((i : Nat) : Int))), (14, .t (.bool true))] :=
    RelS.puts (o := { dst := some 85, op := .move (.tmp 0), type := 0, pos := "", after := #[], guard := none }) s6 (.t (.int hin)) rfl
  have b7 : (a6.put (some 85) (.int .i64 (sl : Int))).tmps.getD 0 undef = vb := (put_tmp _ _ _ 0 (by decide)).trans b6
  have c7 : (a6.put (some 85) (.int .i64 (sl : Int))).tmps.getD 3 undef = v3 := (put_tmp _ _ _ 3 (by decide)).trans c6
  have d7 : (a6.put (some 85) (.int .i64 (sl : Int))).tmps.getD 4 undef = v4 := (put_tmp _ _ _ 4 (by decide)).trans d6
  generalize a6.put (some 85) (.int .i64 (sl : Int)) = a7 at *
  obtain ⟨m7, hm7⟩ : ∃ m7, m7 = m6 := ⟨_, rfl⟩
  obtain ⟨w7, hw7⟩ : ∃ w7, w7 = w6 := ⟨_, rfl⟩
  have hI7 : Inv c m7 w7 [] := by rw [hm7, hw7]; exact hI6
  have hM7 : MLe Mb m7.M := by rw [hm7]; exact hM6
  have hR7 : RelT m7.M (.sq 2 (outsO tx.outs us)) h2 := by rw [hm7]; exact hR6
  have hF7 : ∀ u ∈ us, Scr c.w0.heap.size Mb m7.M u := by rw [hm7]; exact hF6
  rw [← hm7] at s7
  rw [← hw7]
  clear hm7 hw7 v84 s6 b6 c6 d6 hI6 hM6 hR6 hF6
  by_cases hkl : k < sl
  rotate_left
  · obtain rfl : k = sl := by omega
    have hkl2 : ((k : Int) < (k : Int)) = False := by simp
    refine reg_pre X_ok (GClOk.nil _) (pre := [_]) (rest := []) (S := ⟨_, _⟩) (c := ctxK w7 m7 [] 0) rfl (Ev hkl2) (inv_ctxK hI7 (by simp)) (hrow4 s7 d7 hM7 hR7) (fun i => i = 0 ∨ i = 3 ∨ i = 4) (by rintro i (rfl | rfl | rfl) o ho <;> (revert o; decide)) (fun m8 w8 a8 i8 r8 k8 => wpListIn_nil ?_)
    refine wpIn_cond_false ((r8.2.2 86).bool_inv) (wpIn_exit ?_)
    have hI8 : Inv c m8 w8 [] := inv_comp hI7 (by omega) i8
    have b8 := (k8 0 (.inl rfl)).trans b7
    have c8 := (k8 3 (.inr (.inl rfl))).trans c7
    have d8 := (k8 4 (.inr (.inr rfl))).trans d7
    have hM8 := hM7.trans i8.le
    have hR8 := hR7.mono i8.le
    have hF8 : ∀ u ∈ us, Scr c.w0.heap.size Mb m8.M u := fun u hu => (hF7 u hu).mono i8.le
    have s8 : RelS m8 108 a8 [(15, .t (.int .i64 ((i : Nat) : Int))), (14, .t (.bool true))] := r8.prune [15, 14]
    clear i8 k8 hI7 b7 c7 d7 hM7 hR7 hF7 s7
    show Code.wpIn _ _ _ _ _ _ _
    have hiw : IntKind.i64.wrap ((i : Int) + 1) = (i : Int) + 1 := by rw [wrap_i64 (by omega) (by omega)]
    refine reg_step X_ok (GClOk.nil _) (S := ⟨_, _⟩) (c := ctxK w8 m8 [] 0) rfl (Ev hiw) (inv_ctxK hI8 (by simp)) (hrow4 s8 d8 hM8 hR8) (fun i => i = 0 ∨ i = 3 ∨ i = 4) (by rintro i (rfl | rfl | rfl) o ho <;> (revert o; decide)) (fun m9 w9 a9 i9 r9 k9 => ?_)
    have e1 : (i : Int) + 1 = ((i + 1 : Nat) : Int) := by omega
    rw [e1] at r9
    have hI9 : Inv c m9 w9 [] := inv_comp hI8 (by omega) i9
    have b9 := (k9 0 (.inl rfl)).trans b8
    have c9 := (k9 3 (.inr (.inl rfl))).trans c8
    have d9 := (k9 4 (.inr (.inr rfl))).trans d8
    have hM9 := hM8.trans i9.le
    have hR9 := hR8.mono i9.le
    have hF9 : ∀ u ∈ us, Scr c.w0.heap.size Mb m9.M u := fun u hu => (hF8 u hu).mono i9.le
    have s9 : RelS m9 108 a9 [(15, .t (.int .i64 ((i + 1 : Nat) : Int))), (14, .t (.bool true))] := r9.prune [15, 14]
    clear i9 k9 hI8 b8 c8 d8 hM8 hR8 hF8 s8
    refine ⟨⟨i + 1, m9, hlt, hI9, s9, b9, c9, d9, hM9, hR9, hF9⟩, ?_⟩
    rw [cntS_val s9 (j := 15) rfl, hcnt]
    simp only [Int.toNat_natCast]
    omega
  have hkl2 : (k : Int) < (sl : Int) := by omega
  refine reg_pre X_ok (GClOk.nil _) (pre := [_]) (rest := []) (S := ⟨_, _⟩) (c := ctxK w7 m7 [] 0) rfl (Ev hkl2) (inv_ctxK hI7 (by simp)) (hrow4 s7 d7 hM7 hR7) (fun i => i = 0 ∨ i = 3 ∨ i = 4) (by rintro i (rfl | rfl | rfl) o ho <;> (revert o; decide)) (fun m8 w8 a8 i8 r8 k8 => wpListIn_nil ?_)
  refine wpIn_cond_true ((r8.2.2 86).bool_inv) (wpIn_skip ?_)
  have hI8 : Inv c m8 w8 [] := inv_comp hI7 (by omega) i8
  have b8 := (k8 0 (.inl rfl)).trans b7
  have c8 := (k8 3 (.inr (.inl rfl))).trans c7
  have d8 := (k8 4 (.inr (.inr rfl))).trans d7
  have hM8 := hM7.trans i8.le
  have hR8 := hR7.mono i8.le
  have hF8 : ∀ u ∈ us, Scr c.w0.heap.size Mb m8.M u := fun u hu => (hF7 u hu).mono i8.le
  have s8 : RelS m8 108 a8 [(16, .t (.int .i64 ((k : Nat) : Int))), (15, .t (.int .i64 ((i : Nat) : Int))), (14, .t (.bool true))] := r8.prune [16, 15, 14]
  clear i8 k8 hI7 b7 c7 d7 hM7 hR7 hF7 s7
  clear r8
  refine wpIn_seq (wpIn_block ?_)
  refine wpIn_region_lit ?_
  refine reg_pre X_ok (GClOk.nil _) (pre := [_, _, _, _, _, _, _]) (rest := [_, _]) (S := ⟨_, _⟩) (c := ctxK w8 m8 [] 0) rfl (Ev (And.intro hlt <| And.intro hlt2 <| And.intro hXl <| And.intro hlX hg)) (inv_ctxK hI8 (by simp)) (hrow4 s8 d8 hM8 hR8) (fun i => i = 0 ∨ i = 3 ∨ i = 4) (by rintro i (rfl | rfl | rfl) o ho <;> (revert o; decide)) (fun m9 w9 a9 i9 r9 k9 => ?_)
  have v94 : a9.tmps.getD 94 undef = u := (show RelA m9 (.t (.op u)) (a9.tmps.getD 94 undef) from r9.2.2 94).t_inv.op_inv
  have v95 : a9.eval (.tmp 95) = .int .i64 (k : Int) := (r9.2.2 95).int_inv.1
  have hN : a9.tmps.size = 108 := r9.2.1
  have hI9 : Inv c m9 w9 [] := inv_comp hI8 (by omega) i9
  have b9 := (k9 0 (.inl rfl)).trans b8
  have c9 := (k9 3 (.inr (.inl rfl))).trans c8
  have d9 := (k9 4 (.inr (.inr rfl))).trans d8
  have hM9 := hM8.trans i9.le
  have hR9 := hR8.mono i9.le
  have hF9 : ∀ u ∈ us, Scr c.w0.heap.size Mb m9.M u := fun u hu => (hF8 u hu).mono i9.le
  have s9 : RelS m9 108 a9 [(16, .t (.int .i64 ((k : Nat) : Int))), (15, .t (.int .i64 ((i : Nat) : Int))), (14, .t (.bool true))] := r9.prune [16, 15, 14]
  clear i9 k9 hI8 b8 c8 d8 hM8 hR8 hF8 s8
  clear r9
  obtain ⟨ad', len', cap', q1, _, q2⟩ := hF9 u hmem
  rw [hsl] at q1
  cases q1
  rcases q2 with q2 | ⟨b, off, cs, e, fr, rfl, hnb, hMbb, hMb, hpl, hcl, hu8⟩
  · omega
  have v94' : a9.eval (.tmp 94) = .slice (some ⟨b, off, none⟩) sl cap := by
    rw [← hsl]; exact v94
  obtain ⟨n8, hn8⟩ := hu8 k hkl
  refine wl_indexO E_ok rfl rfl (e := 5) rfl rfl v94' v95 (by omega) hkl2 ?_
  rw [Int.toNat_natCast]
  have s10 : RelS m9 108 (a9.put (some 96) (.pointer (some ⟨b, off + k, none⟩))) [(96, .any), (16, .t (.int .i64 ((k : Nat) : Int))), (15, .t (.int .i64 ((i : Nat) : Int))), (14, .t (.bool true))] :=
    RelS.puts (o := { dst := some 96, op := .move (.tmp 0), type := 0, pos := "", after := #[], guard := none }) s9 .any rfl
  have v96 : (a9.put (some 96) (.pointer (some ⟨b, off + k, none⟩))).eval (.tmp 96) = .pointer (some ⟨b, off + k, none⟩) := by
    simp [Act.put, Act.eval, Deferred.ofValue, hN]
  have b10 : (a9.put (some 96) (.pointer (some ⟨b, off + k, none⟩))).tmps.getD 0 undef = vb := (put_tmp _ _ _ 0 (by decide)).trans b9
  have c10 : (a9.put (some 96) (.pointer (some ⟨b, off + k, none⟩))).tmps.getD 3 undef = v3 := (put_tmp _ _ _ 3 (by decide)).trans c9
  have d10 : (a9.put (some 96) (.pointer (some ⟨b, off + k, none⟩))).tmps.getD 4 undef = v4 := (put_tmp _ _ _ 4 (by decide)).trans d9
  generalize a9.put (some 96) (.pointer (some ⟨b, off + k, none⟩)) = a10 at *
  refine wl_store E_ok rfl rfl rfl v96 rfl (hI9.imm _ _ hMb) hpl (by omega) ?_
  intro w10 g1 g3 g4 g5 g6 g7
  refine wpListIn_nil ?_
  have hh := hard_outs hul hF9
  have hI10' := inv_setM0 hI9 hMb hnb (by
    cases hx : c.M0 b with
    | none => rfl
    | some o => have := hcM b o hx; rw [hMbb] at this; cases this) hpl (p := off + k) (z := 55) g1 g3 g4 g5 g6 g7
  have s10' := RelS.setM (s10.prune [16, 15, 14]) (fun j => by
    simp only [Fw.prune, List.map_cons, List.map_nil, lk, ↓reduceIte, Nat.reduceEqDiff]
    repeat' split
    all_goals trivial) hMb hn8 (z := 55)
  obtain ⟨m10, hm10⟩ : ∃ m10 : Mem, m10 = ⟨setM m9.M b (.cells (cs.setIfInBounds (off + k) (.int .u8 55)) e fr), m9.η, m9.n⟩ := ⟨_, rfl⟩
  rw [← hm10] at hI10' s10'
  have hI10 : Inv c m10 w10 [] := hI10'
  have hM10 : MLe Mb m10.M := by
    rw [hm10]
    intro x o hx
    have hxb : x ≠ b := fun e => by subst e; rw [hMbb] at hx; cases hx
    exact (setM_ne hxb).trans (hM9 x o hx)
  have hR10 : RelT m10.M (.sq 2 (outsO tx.outs us)) h2 := by rw [hm10]; exact row_set hR9 hh hMb hn8
  have hF10 : ∀ u ∈ us, Scr c.w0.heap.size Mb m10.M u := by rw [hm10]; exact fun u hu => (hF9 u hu).set hMb
  have s10 : RelS m10 108 a10 [(16, .t (.int .i64 ((k : Nat) : Int))), (15, .t (.int .i64 ((i : Nat) : Int))), (14, .t (.bool true))] := s10'
  clear hm10 s10' hI10' hI9 hM9 hR9 hF9 s9 b9 c9 d9 v94 v94' v95 v96 hN
  have hkw : IntKind.i64.wrap ((k : Int) + 1) = (k : Int) + 1 := by unfold maxLen at slm; rw [wrap_i64 (by omega) (by omega)]
  show Code.wpIn _ _ _ _ _ _ _
  refine reg_step X_ok (GClOk.nil _) (S := ⟨_, _⟩) (c := ctxK w10 m10 [] 0) rfl (Ev hkw) (inv_ctxK hI10 (by simp)) (hrow4 s10 d10 hM10 hR10) (fun i => i = 0 ∨ i = 3 ∨ i = 4) (by rintro i (rfl | rfl | rfl) o ho <;> (revert o; decide)) (fun m11 w11 a11 i11 r11 k11 => ?_)
  have e1 : (k : Int) + 1 = ((k + 1 : Nat) : Int) := by omega
  rw [e1] at r11
  have hI11 : Inv c m11 w11 [] := inv_comp hI10 (by omega) i11
  have b11 := (k11 0 (.inl rfl)).trans b10
  have c11 := (k11 3 (.inr (.inl rfl))).trans c10
  have d11 := (k11 4 (.inr (.inr rfl))).trans d10
  have hM11 := hM10.trans i11.le
  have hR11 := hR10.mono i11.le
  have hF11 : ∀ u ∈ us, Scr c.w0.heap.size Mb m11.M u := fun u hu => (hF10 u hu).mono i11.le
  have s11 : RelS m11 108 a11 [(16, .t (.int .i64 ((k + 1 : Nat) : Int))), (15, .t (.int .i64 ((i : Nat) : Int))), (14, .t (.bool true))] := r11.prune [16, 15, 14]
  clear i11 k11 hI10 b10 c10 d10 hM10 hR10 hF10 s10
  refine ⟨⟨k + 1, m11, hkl, hI11, s11, b11, c11, d11, hM11, hR11, hF11⟩, ?_⟩
  rw [cntS_val s11 (j := 16) rfl, hcnt5]
  simp only [Int.toNat_natCast]
  omega

end Go.Fw

end

section
/- Chapter 9: TxTake walked. -/
namespace Go.Fw
open Go Go.Proofs Go.RowKit
set_option linter.unusedVariables false
set_option linter.unusedSimpArgs false

def F3 : Fun
  | [.by b] => some ([], .t (.bool true))
  | _ => none

theorem ct3 : CT [(9, ⟨[], treeG F9⟩), (10, ⟨[false], treeG F10⟩), (11, ⟨[false], treeG F11⟩), (12, ⟨[false], treeG F12⟩), (13, ⟨[false], treeG F13⟩), (14, ⟨[false, false], treeG F14⟩)] [0, 2, 3, 4, 5, 6, 7, 8, 9, 10, 11, 12, 13, 14, 15, 16, 19, 75, 86] [] := ⟨(.cons c9.g (.cons c10.g (.cons c11.g (.cons c12.g (.cons c13.g (.cons c14.g (.nil _)))))))⟩
theorem ct3L : CT [(9, ⟨[], treeG F9⟩), (10, ⟨[true], G10L⟩), (11, ⟨[false], treeG F11⟩), (12, ⟨[false], treeG F12⟩), (13, ⟨[false], treeG F13⟩), (14, ⟨[false, false], treeG F14⟩)] [0, 2, 3, 4, 5, 6, 7, 8, 9, 10, 11, 12, 13, 14, 15, 16, 19, 75, 86] [] := ⟨(.cons c9.g (.cons g10L (.cons c11.g (.cons c12.g (.cons c13.g (.cons c14.g (.nil _)))))))⟩

theorem txR_one (R : Res TTx) : ∃ t x e, txR R = ([], .tup [.t (txT t), .t (.by x), .t (.int .i64 e)]) ∧ (∀ t' x', R = .ok t' x' → t = t' ∧ x = x' ∧ e = 0) ∧ (∀ e', R = .err e' → t = dTx ∧ x = [] ∧ e = e') := by
  cases R with
  | ok t x => exact ⟨t, x, 0, rfl, fun _ _ h => by cases h; exact ⟨rfl, rfl, rfl⟩, fun _ h => by cases h⟩
  | err e => exact ⟨dTx, [], e, rfl, fun _ _ h => (by cases h), fun _ h => by cases h; exact ⟨rfl, rfl, rfl⟩⟩
theorem decR_one (R : Res TTx) : ∃ t e, decR R = ([], .tup [.t (txT t), .t (.int .i64 e)]) := by
  cases R with
  | ok t x => exact ⟨t, 0, rfl⟩
  | err e => exact ⟨dTx, e, rfl⟩

set_option maxRecDepth 8000 in
set_option maxHeartbeats 8000000 in
theorem c3 : ACon Try.prog 3 F3 := by
  refine aconcM E_ok (rs := [.tmp 2 4]) Try.func3 rfl Try.ntmps3 (by kernel_rfl) rfl (by decide) F3 (np := 1) ?_ ?_
  · intro ts h; unfold F3; split <;> first | rfl | (simp at h; done)
  intro ts H r hF hwf
  unfold F3 at hF
  split at hF <;> try (cases hF; done)
  rename_i b
  cases hF
  
  show AWM 0 _ _ _ _ _
  refine AWM.seq ?_
  refine St (And.intro @entry.eq_1 <| @entry.eq_2) ct3 ?_
  show AWM _ _ _ _ _ _
  refine AWM.seq ?_
  by_cases hb : 1500 < (b.length : Int)
  · repeat refine St (And.intro hb <| @F9.eq_def) ct3 ?_
    refine AWP.ret (ret_early (fn := Try.f3) (y := .skip) E_ok (rs := [.tmp 2 4]) rfl ?_)
    exact Fin trivial [] []
  have hbl : b.length ≤ 1500 := by omega
  repeat refine St hb ct3 ?_
  show AWM _ _ _ _ _ _
  refine AWM.seq ?_
  repeat refine St hbl ct3 ?_
  show AWM _ _ _ _ _ _
  have h1 := take_t (b := b) (by omega)
  have h2 := rtake_t (b := b) (by omega)
  have h3 := dec_t (b := b) (by omega)
  have h4 := rdec_t (b := b) (by omega)
  obtain ⟨t, x, e, hR, hok, her⟩ := txR_one (takTx b)
  obtain ⟨t2, e2, hD⟩ := decR_one (decTx b)
  rw [hR] at h1 h2
  rw [hD] at h3 h4
  have hs1 := rsame_t t t
  have hs2 := rsame_t t2 t2
  rw [decide_eq_true rfl] at hs1 hs2
  have q1 : (b == b) = true := beq_self_eq_true _
  have q2 : (x == x) = true := beq_self_eq_true _
  have q3 : (e == e) = true := beq_self_eq_true _
  have q4 : (e2 == e2) = true := beq_self_eq_true _
  cases htk : takTx b with
  | err e0 =>
    obtain ⟨rfl, rfl, rfl⟩ := her e0 htk
    rw [dTx_T] at h1 h2 hs1
    rw [txT_st] at h3 h4 hs2
    refine AWM.seq ?_
    repeat refine St h1 ct3 ?_
    show AWM _ _ _ _ _ _
    refine AWM.seq ?_
    repeat refine St h2 ct3 ?_
    show AWM _ _ _ _ _ _
    refine AWM.seq ?_
    repeat refine St h3 ct3 ?_
    show AWM _ _ _ _ _ _
    refine AWM.seq ?_
    repeat refine St h4 ct3 ?_
    show AWM _ _ _ _ _ _
    refine AWM.seq ?_
    repeat refine St (And.intro hs1 <| And.intro hs2 <| And.intro q2 <| And.intro q3 <| q4) ct3 ?_
    show AWM _ _ _ _ _ _
    refine AWM.seq ?_
    repeat refine St trivial ct3 ?_
    refine AWP.loop (G := Unit) (fun _ => ⟨[(0, .t (.by b)), (3, .own 0), (4, .ptr 1 0 []), (14, .t (.bool true)), (15, .t (.int .i64 0))], [.fz (.by b), .bx (.t (.st [.int .u32 0, .sq 35 [], .sq 2 [], .int .u32 0]))]⟩) (fun _ => 0) () (Wt trivial [0, 3, 4, 14, 15] [1, 2]) ?_
    intro _
    repeat refine St trivial ct3 ?_
    show AWM _ _ _ _ _ _
    refine AWM.seq ?_
    repeat refine St (And.intro @F9.eq_def <| q1) ct3 ?_
    show AWM _ _ _ _ _ _
    refine AWM.retE (ret_early (fn := Try.f3) (y := .skip) E_ok (rs := [.tmp 2 4]) rfl ?_)
    exact Fin trivial [] []
  | ok t0 x0 =>
    obtain ⟨rfl, rfl, rfl⟩ := hok t0 x0 htk
    have hb4 : 4 ≤ b.length := by
      obtain ⟨_, h5⟩ := takTx_only htk
      have h6 : 4 ≤ (wholeB t).length := by
        unfold wholeB bareB
        simp [le_len]
        first | done | omega
      have := congrArg List.length h5
      rw [List.length_append] at this
      omega
    have htl := take_L htk (by omega) hb4
    rw [txT_st] at h2 h3 h4 hs1 hs2
    refine AWM.weak (S' := ⟨[(0, .t (.by b)), (3, .own 0)], [.by b]⟩) (Wt trivial [0, 3] [1]) ?_
    intro c hc m1 w1 a1 hi1 hs1'
    have hi1 : Inv c m1 w1 [.by b] := hi1
    -- region 4: t, rest, e := tx.Take(own)
    refine wpIn_seq ?_
    refine wpIn_region_lit ?_
    refine reg_pre X_ok ct3.cl (pre := [_]) (rest := [_, _, _, _, _, _, _, _, _]) (S := ⟨_, _⟩) (c := ctxK w1 m1 [.by b] 1) rfl (Ev trivial) (inv_ctxK hi1 (by simp)) hs1' (fun i => i = 0 ∨ i = 3) (by rintro i (rfl | rfl) o ho <;> (revert o; decide)) (fun m2 w2 a2 i2 r2 k2 => ?_)
    have hi2 : Inv c m2 w2 [.by b] := inv_comp hi1 (by rw [hc]; exact Nat.zero_le _) i2
    have v25 := (r2.2.2 25).own_inv.1
    have v3 := (r2.2.2 3).own_inv.1
    refine wpListIn_plain rfl fun K hK => ⟨fun _ _ => trivial, ?_⟩
    have hrun : (execOp a2.eval { dst := some 26, op := Op.call { callee := Callee.value (Operand.func 10), args := #[Operand.tmp 25], argTypes := #[22] }, type := 30, pos := "law.go:60", after := #[{ on := 0, ground := Ground.data }], guard := none }).run Try.prog w2 = .ok (.enter 10 #[a2.tmps.getD 25 undef]) w2 := by
      have e2 := run_enter (P := Try.prog) Try.func10 (by kernel_rfl) (by kernel_rfl) #[a2.tmps.getD 25 undef] w2
      simp [execOp, resolve, Act.eval, Deferred.ofValue, invoke]
    rw [Oper.semAt_eq _ _ _ (by intro c h; cases h), hrun]
    refine ⟨fun hd => by simp [Fence.wide] at hd, callsIn_at ((GCon.fresh g10L htl (k := 1) (j := 0) (vs := [a2.tmps.getD 25 undef]) hi2 (by simp) rfl rfl (fun i y hx => by
      match i, hx with
      | 0, hx => cases hx; exact ⟨_, rfl, by rw [v25]; exact .own (m := mem1 (m2.η 0)) (i := 0) (by show 0 < 1; omega)⟩)).mono fun e w3 he => ?_)⟩
    obtain ⟨N, us, rfl, hus, hN, hNd, i3, hNM⟩ := he
    have hi3 : Inv c (m2.with N) w3 [.by b] := inv_comp hi2 (by rw [hc]; exact Nat.zero_le _) i3
    show K (a2.put (some 26) (.tuple us)) w3
    refine hK _ _ ?_
    clear hK K hrun
    obtain ⟨h1', h2', hop, hins, hrow⟩ := tx_op (hN 0 _ rfl)
    have htup : RelA (m2.with N) (.tup [.t (txO t h1' h2'), .t (.by x), .t (.int .i64 0)]) (.tuple us) := .tup (by simpa using hus) fun i c hi => by
      match i, hi with
      | 0, hi => cases hi; exact .t (hop _)
      | 1, hi => cases hi; exact .t ((hN 1 _ rfl).mono hNM)
      | 2, hi => cases hi; exact .t ((hN 2 _ rfl).mono hNM)
    have s3 : RelS (m2.with N) 108 (a2.put (some 26) (.tuple us)) [(26, .tup [.t (txO t h1' h2'), .t (.by x), .t (.int .i64 0)]), (0, .t (.by b)), (3, .own 0)] :=
      RelS.puts (o := { dst := some 26, op := .move (.tmp 0), type := 0, pos := "", after := #[], guard := none }) (RelS.mono (r2.prune [0, 3]) (Ext.with m2 N)) htup rfl
    have z3 : (a2.put (some 26) (.tuple us)).tmps.getD 0 undef = a1.tmps.getD 0 undef := (put_tmp _ _ _ 0 (by decide)).trans (k2 0 (.inl rfl))
    have y3 : (a2.put (some 26) (.tuple us)).tmps.getD 3 undef = m2.η 0 := (put_tmp _ _ _ 3 (by decide)).trans v3
    have hb2 : RelT m2.M (.by b) (a1.tmps.getD 0 undef) := by
      have := (show RelA m2 (.t (.by b)) (a2.tmps.getD 0 undef) from r2.2.2 0).t_inv
      rwa [k2 0 (.inl rfl)] at this
    generalize a2.put (some 26) (.tuple us) = a3 at *
    unfold txO at s3
    refine reg_pre X_ok ct3.cl (pre := [_, _, _, _, _, _, _, _]) (rest := []) (S := ⟨_, _⟩) (c := ctxK w3 (m2.with N) [.by b] 1) rfl (Ev trivial) (inv_ctxK hi3 (by simp)) s3 (fun i => i = 0 ∨ i = 3) (by rintro i (rfl | rfl) o ho <;> (revert o; decide)) (fun m4 w4 a4 i4 r4 k4 => wpListIn_nil ?_)
    have hi4 : Inv c m4 w4 [.by b, .bx (.t (.st [.int .u32 (t.ver.toNat : Int), .op h1', .op h2', .int .u32 (t.lock.toNat : Int)]))] := inv_comp hi3 (by rw [hc]; exact Nat.zero_le _) i4
    have n4 : m4.η 0 = m2.η 0 := (i4.keep 0 (by show 0 < 1; omega)).2
    have z4 := (k4 0 (.inl rfl)).trans z3
    have y4 := (k4 3 (.inr rfl)).trans y3
    have hN4 : MLe N m4.M := hNM.trans i4.le
    have hM4 : MLe m2.M m4.M := (m2.with_le N).trans i4.le
    have s4 : RelS m4 108 a4 [(5, .t (.by x)), (6, .t (.int .i64 0)), (4, .ptr 1 0 []), (0, .t (.by b)), (3, .own 0)] := r4.prune [5, 6, 4, 0, 3]
    obtain ⟨B4, hv4, hB4n, hB4⟩ := (show RelA m4 (.ptr 1 0 []) (a4.tmps.getD 4 undef) from r4.2.2 4).ptr_inv
    have hNB : N B4 = none := by
      have := ((hi4.ok 1 _ rfl).at rfl hB4).1
      cases hx : N B4 with
      | none => rfl
      | some o => have := hN4 B4 o hx; simp_all
    obtain ⟨v4, hv4'⟩ : ∃ v4, v4 = a4.tmps.getD 4 undef := ⟨_, rfl⟩
    rw [← hv4'] at hv4
    have x4 : a4.tmps.getD 4 undef = v4 := hv4'.symm
    clear i4 r4 k4 i3 s3 htup hus hi3 hNM z3 y3 hv4'
    obtain ⟨m5, i5, s5⟩ := (show Weak 2 108 ⟨_, _⟩ ⟨_, _⟩ from Weak.freeze 1) (ctxK w4 m4 _ 2) rfl m4 w4 a4 (inv_ctxK (k := 2) hi4 (by simp)) s4
    have n5 : m5.η 0 = m2.η 0 := (i5.keep 0 (by show 0 < 2; omega)).2.trans n4
    have n51 : m5.η 1 = m4.η 1 := (i5.keep 1 (by show 1 < 2; omega)).2
    have hi5 : Inv c m5 w4 [.by b, .fb (.st [.int .u32 (t.ver.toNat : Int), .op h1', .op h2', .int .u32 (t.lock.toNat : Int)])] := inv_comp hi4 (by rw [hc]; exact Nat.zero_le _) i5
    have hN5 : MLe N m5.M := hN4.trans i5.le
    have hM5 : MLe m2.M m5.M := hM4.trans i5.le
    obtain ⟨wf5, b5, cur, e5, fr5, g1, g2, g3⟩ := hi5.ok 1 _ rfl
    obtain rfl : b5 = B4 := by
      have := hB4
      rw [← n51, g1] at this
      simpa [blk] using this
    have cu0 : ∃ u, cur[0]? = some u ∧ ∀ M, RelT M (.int .u32 (t.ver.toNat : Int)) u := by
      obtain ⟨u, q1, q2⟩ := g3 0 _ rfl
      exact ⟨u, q1, fun M => by cases q2; rename_i q; exact .int q⟩
    have cu3 : ∃ u, cur[3]? = some u ∧ ∀ M, RelT M (.int .u32 (t.lock.toNat : Int)) u := by
      obtain ⟨u, q1, q2⟩ := g3 3 _ rfl
      exact ⟨u, q1, fun M => by cases q2; rename_i q; exact .int q⟩
    have cu1 : cur[1]? = some h1' := by
      obtain ⟨u, q1, q2⟩ := g3 1 _ rfl
      rw [q1, q2.op_inv]
    have cu2 : cur[2]? = some h2' := by
      obtain ⟨u, q1, q2⟩ := g3 2 _ rfl
      rw [q1, q2.op_inv]
    have hi5' : Inv c m5 w4 [.by b, .fb (.st [.int .u32 (t.ver.toNat : Int), .sq 35 (t.ins.map inT), .sq 2 (t.outs.map outT), .int .u32 (t.lock.toNat : Int)])] := by
      refine inv_retell hi5 1 (Z := .fb (.st [.int .u32 (t.ver.toNat : Int), .sq 35 (t.ins.map inT), .sq 2 (t.outs.map outT), .int .u32 (t.lock.toNat : Int)])) rfl ⟨(hN 0 _ rfl).wf, _, cur, e5, fr5, g1, g2, fun j c hj => ?_⟩
      match j, hj with
      | 0, hj => cases hj; obtain ⟨u, q1, q2⟩ := cu0; exact ⟨u, q1, q2 _⟩
      | 1, hj => cases hj; exact ⟨h1', cu1, hins.mono hN5⟩
      | 2, hj => cases hj; exact ⟨h2', cu2, hrow.mono hN5⟩
      | 3, hj => cases hj; obtain ⟨u, q1, q2⟩ := cu3; exact ⟨u, q1, q2 _⟩
      | j + 4, hj => simp [T.cells, T.cellsL] at hj
    have hB5 := g2
    have z5 := z4
    have y5 := y4
    have x5 := x4
    clear z4 y4 x4 hM4 hN4 i5 g2 g3 hi5 hi4 n4 s4
    have hi5 := hi5'
    clear hi5' hN
    obtain ⟨w5, hw5⟩ : ∃ w5, w5 = w4 := ⟨_, rfl⟩
    obtain ⟨a5, ha5⟩ : ∃ a5, a5 = a4 := ⟨_, rfl⟩
    rw [← hw5] at hi5 ⊢
    rw [← ha5] at s5 z5 y5 x5 ⊢
    clear hw5 ha5
    have s5 : RelS m5 108 a5 [(5, .t (.by x)), (6, .t (.int .i64 0)), (4, .ptr 1 0 []), (0, .t (.by b)), (3, .own 0)] := s5
    show Code.wpIn _ _ _ _ _ _ _
    refine wpIn_seq ?_
    refine reg_step X_ok ct3.cl (S := ⟨_, _⟩) (c := ctxK w5 m5 _ 2) rfl (Ev h2) (inv_ctxK hi5 (by simp)) s5 (fun i => i = 0 ∨ i = 3 ∨ i = 4) (by rintro i (rfl | rfl | rfl) o ho <;> (revert o; decide)) (fun m6 w6 a6 i6 s6 k6 => ?_)
    have hi6 := inv_comp hi5 (by rw [hc]; exact Nat.zero_le _) i6
    have n6 : m6.η 0 = m2.η 0 := (i6.keep 0 (by show 0 < 2; omega)).2.trans n5
    have z6 := (k6 0 (.inl rfl)).trans z5
    have y6 := (k6 3 (.inr (.inl rfl))).trans y5
    have x6 := (k6 4 (.inr (.inr rfl))).trans x5
    have hM6 := hM5.trans i6.le
    have hN6 := hN5.trans i6.le
    have hB6 := i6.le _ _ hB5
    clear i6 k6 z5 y5 x5 hM5 hN5 hB5 n5 s5 hi5
    show Code.wpIn _ _ _ _ _ _ _
    refine wpIn_seq ?_
    refine reg_step X_ok ct3.cl (S := ⟨_, _⟩) (c := ctxK w6 m6 _ 2) rfl (Ev h3) (inv_ctxK hi6 (by simp)) s6 (fun i => i = 0 ∨ i = 3 ∨ i = 4) (by rintro i (rfl | rfl | rfl) o ho <;> (revert o; decide)) (fun m7 w7 a7 i7 s7 k7 => ?_)
    have hi7 := inv_comp hi6 (by rw [hc]; exact Nat.zero_le _) i7
    have n7 : m7.η 0 = m2.η 0 := (i7.keep 0 (by show 0 < 2; omega)).2.trans n6
    have z7 := (k7 0 (.inl rfl)).trans z6
    have y7 := (k7 3 (.inr (.inl rfl))).trans y6
    have x7 := (k7 4 (.inr (.inr rfl))).trans x6
    have hM7 := hM6.trans i7.le
    have hN7 := hN6.trans i7.le
    have hB7 := i7.le _ _ hB6
    clear i7 k7 z6 y6 x6 hM6 hN6 hB6 n6 s6 hi6
    show Code.wpIn _ _ _ _ _ _ _
    refine wpIn_seq ?_
    refine reg_step X_ok ct3.cl (S := ⟨_, _⟩) (c := ctxK w7 m7 _ 2) rfl (Ev h4) (inv_ctxK hi7 (by simp)) s7 (fun i => i = 0 ∨ i = 3 ∨ i = 4) (by rintro i (rfl | rfl | rfl) o ho <;> (revert o; decide)) (fun m8 w8 a8 i8 s8 k8 => ?_)
    have hi8 := inv_comp hi7 (by rw [hc]; exact Nat.zero_le _) i8
    have n8 : m8.η 0 = m2.η 0 := (i8.keep 0 (by show 0 < 2; omega)).2.trans n7
    have z8 := (k8 0 (.inl rfl)).trans z7
    have y8 := (k8 3 (.inr (.inl rfl))).trans y7
    have x8 := (k8 4 (.inr (.inr rfl))).trans x7
    have hM8 := hM7.trans i8.le
    have hN8 := hN7.trans i8.le
    have hB8 := i8.le _ _ hB7
    clear i8 k8 z7 y7 x7 hM7 hN7 hB7 n7 s7 hi7
    show Code.wpIn _ _ _ _ _ _ _
    refine wpIn_seq ?_
    refine reg_step X_ok ct3.cl (S := ⟨_, _⟩) (c := ctxK w8 m8 _ 2) rfl (Ev (And.intro hs1 <| And.intro hs2 <| And.intro q2 <| And.intro q3 <| q4)) (inv_ctxK hi8 (by simp)) s8 (fun i => i = 0 ∨ i = 3 ∨ i = 4) (by rintro i (rfl | rfl | rfl) o ho <;> (revert o; decide)) (fun m9 w9 a9 i9 s9 k9 => ?_)
    have hi9 := inv_comp hi8 (by rw [hc]; exact Nat.zero_le _) i9
    have n9 : m9.η 0 = m2.η 0 := (i9.keep 0 (by show 0 < 2; omega)).2.trans n8
    have z9 := (k9 0 (.inl rfl)).trans z8
    have y9 := (k9 3 (.inr (.inl rfl))).trans y8
    have x9 := (k9 4 (.inr (.inr rfl))).trans x8
    have hM9 := hM8.trans i9.le
    have hN9 := hN8.trans i9.le
    have hB9 := i9.le _ _ hB8
    clear i9 k9 z8 y8 x8 hM8 hN8 hB8 n8 s8 hi8
    have hfz := (hi9.ok 0 _ rfl).1
    rw [n9] at hfz
    have hlow : ∀ y, y < w2.heap.size → N y = none := fun y hy => by
      cases hx : N y with
      | none => rfl
      | some o => have := (hNd y o hx).1; omega
    have hbase : MLe m2.M (beside N m9.M) := fun y o hy => by
      rw [beside_some (hlow y (lt_of_heap (hi2.imm y o hy)))]
      exact hM9 y o hy
    have hb3 : RelT (beside N m9.M) (.by b) (m2.η 0) := by
      rcases hfz.by_inv with ⟨hb0, _⟩ | ⟨bb, off, cap, cur', ty, fr, hv, hMb, hlc, hcm, hcc⟩
      · rw [hb0] at hb4; simp at hb4
      · have hlt : bb < w2.heap.size := by
          rcases hi2.ok 0 _ rfl with ⟨_, hb0⟩ | ⟨b', cap', cur2, e', hv', hh, _⟩
          · rw [hb0] at hb4; simp at hb4
          · rw [hv'] at hv
            cases hv
            exact lt_of_heap hh
        rw [hv]
        exact .by (by rw [beside_some (hlow bb hlt)]; exact hMb) hlc hcm hcc
    have hbB : RelT (beside N m9.M) (.by b) (a1.tmps.getD 0 undef) := hb2.mono hbase
    obtain ⟨us, hul, hur, huv⟩ := outs_op hrow
    have hsc : ∀ u ∈ us, Scr c.w0.heap.size (beside N m9.M) m9.M u := fun u hu => by
      obtain ⟨j, hj⟩ := List.getElem?_of_mem hu
      have g1 := huv j u hj
      have g2 := g1.wf
      simp only [T.wf] at g2
      exact Scr.of g1 g2 (fun y o hy => ⟨Nat.le_trans hi2.size (hNd y o hy).1, beside_none hy, (hNd y o hy).2⟩) hN9
    have hi0 := inv_nil hi9 hc
    have s0 : RelS ⟨m9.M, m9.η, 0⟩ 108 a9 [(14, .t (.bool true))] := by
      have h := s9.prune [14]
      simp only [Fw.prune, List.map_cons, List.map_nil, lk, ↓reduceIte, Nat.reduceEqDiff] at h
      refine ⟨h.1, h.2.1, fun j => ?_⟩
      have := h.2.2 j
      by_cases e : j = 14
      · subst e
        rw [(show RelA m9 (.t (.bool true)) _ from this).bool_inv]
        exact .t .bool
      · simp only [lk, if_neg e]
        exact .any
    have hip : ∀ m' : Mem, MLe (beside N m9.M) m'.M → RelT m'.M (.sq 2 (outsO t.outs us)) h2' → RelA m' (.ip (.st [.int .u32 (t.ver.toNat : Int), .op h1', .sq 2 (outsO t.outs us), .int .u32 (t.lock.toNat : Int)])) v4 := fun m' hm' hr' => by
      rw [hv4]
      have hwf5 := wf5
      simp only [T.wf, T.wfL] at hwf5
      refine .ip (cur := cur) (ty := e5) (fr := fr5) (hm' _ _ (by rw [beside_some hNB]; exact hB9)) ?_ fun j c hj => ?_
      · simp only [T.wf, T.wfL]
        exact ⟨hwf5.1, hwf5.2.1, by simpa only [T.wf] using hr'.wf, hwf5.2.2.2.1, trivial⟩
      · rw [Nat.zero_add]
        match j, hj with
        | 0, hj => cases hj; obtain ⟨u, q1, q2⟩ := cu0; exact ⟨u, q1, q2 _⟩
        | 1, hj => cases hj; exact ⟨h1', cu1, .op hins.sq_one⟩
        | 2, hj => cases hj; exact ⟨h2', cu2, hr'⟩
        | 3, hj => cases hj; obtain ⟨u, q1, q2⟩ := cu3; exact ⟨u, q1, q2 _⟩
        | j + 4, hj => simp [T.cells, T.cellsL] at hj
    show Code.wpIn _ _ _ _ _ _ _
    refine wpIn_seq ?_
    refine spoil hc (hi2.le.trans hbase) hul (h1 := h1') (h2 := h2') hi0 s0 z9 y9 x9 (beside_le N m9.M) (hur.mono hN9) hsc hip fun m7 w7 a7 hi7 s7 z7 y7 hM7 => ?_
    have s7' : RelS m7 108 a7 [(0, .t (.by b)), (3, .t (.by b)), (14, .t (.bool true))] := by
      refine ⟨s7.1, s7.2.1, fun j => ?_⟩
      by_cases e : j = 0
      · subst e
        rw [z7]
        exact .t (hbB.mono hM7)
      · by_cases e3 : j = 3
        · subst e3
          rw [y7]
          exact .t (hb3.mono hM7)
        · have := s7.2.2 j
          simp only [lk, if_neg e, if_neg e3] at this ⊢
          exact this
    show Code.wpIn _ _ _ _ _ _ _
    refine AWM.app (K := fun c => bodyPostM Fence.wide 0 Try.prog Try.f3 (Rg c [] (.t (.bool true)))) (S := ⟨_, _⟩) ?_ hc hi7 s7'
    refine AWM.seq ?_
    repeat refine St (And.intro @F9.eq_def <| q1) ct3 ?_
    show AWM _ _ _ _ _ _
    refine AWM.retE (ret_early (fn := Try.f3) (y := .skip) E_ok (rs := [.tmp 2 4]) rfl ?_)
    exact Fin trivial [] []

end Go.Fw

end
