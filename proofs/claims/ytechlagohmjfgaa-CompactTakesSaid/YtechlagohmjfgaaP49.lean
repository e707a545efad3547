/- The abstract machine, and the contracts of the code: part 49. -/
import Derived.Test.YtechlagohmjfgaaP48

section
/- compact: bytes that are lent are taken apart where they lie. -/
namespace Go.Fw
open Go Go.Proofs
set_option linter.unusedVariables false
set_option linter.unusedSimpArgs false

noncomputable def G39L : GFun
  | [.by b], [.sub 0 [] 1 0 lo len] => @ite _ ((lo + len ≤ b.length ∧ b.length ≤ 549755813000)) (Classical.propDecidable _) ((some ([.by b, .by ((b.drop lo).take len)], .own 1))) none
  | [], [.t (.by b)] => @ite _ ((b.length ≤ 549755813000)) (Classical.propDecidable _) ((some ([.by b], .own 0))) none
  | _, _ => none

theorem ct39L : CT [] [0, 2] [] := ⟨GClOk.nil _⟩

theorem g39L : GCon Try.prog 39 G39L := by
  refine gconc E_ok (rs := [.tmp 2 22]) Try.func39 rfl Try.ntmps39 (by kernel_rfl) rfl (by decide) G39L (np := 1) ?_ ?_
  · intro HB xs h; unfold G39L; split <;> first | rfl | (simp at h; done)
  intro HB xs H r hG hwf hex
  unfold G39L at hG
  split at hG <;> try (cases hG; done)
  
  · rename_i b lo len
    split at hG
    case isFalse => cases hG
    rename_i hc
    obtain ⟨h1, h2⟩ := hc
    cases hG
    repeat refine St (And.intro @gentry.eq_1 <| @gentry.eq_2) ct39L ?_
    exact AWP.ret (Fin trivial [] [0, 1])
  · rename_i b
    split at hG
    case isFalse => cases hG
    rename_i h2
    cases hG
    repeat refine St (And.intro @gentry.eq_1 <| @gentry.eq_2) ct39L ?_
    exact AWP.ret (Fin trivial [] [0])

theorem copied_l {b x : List UInt8} {lo : Nat} (h1 : lo + x.length ≤ b.length) (h2 : b.length ≤ 549755813000) (h : (b.drop lo).take x.length = x) : G39L [.by b] [.sub 0 [] 1 0 lo x.length] = some ([.by b, .by x], .own 1) := by
  have : G39L [.by b] [.sub 0 [] 1 0 lo x.length] = some ([.by b, .by ((b.drop lo).take x.length)], .own 1) := if_pos ⟨h1, h2⟩
  rw [this, h]
theorem copied_n {b : List UInt8} (h2 : b.length ≤ 549755813000) : G39L [] [.t (.by b)] = some ([.by b], .own 0) := if_pos h2

noncomputable def G38L : GFun
  | [.by b], [.sub 0 [] 1 0 lo len, .t (.int .i64 n)] => @ite _ ((lo + len ≤ b.length)) (Classical.propDecidable _) ((some ([.by b], spR lo len n))) none
  | _, _ => none

theorem ct38L : CT [] [0, 1, 4, 5, 6, 7, 10] [(5, [⟨0, [0], [], []⟩, ⟨0, [1], [], []⟩, ⟨1, [15, 16], [], []⟩, ⟨0, [0], [], []⟩, ⟨0, [1], [], []⟩, ⟨1, [18, 19], [], []⟩, ⟨0, [17], [2], []⟩, ⟨0, [20], [2, 5], []⟩, ⟨0, [], [2, 5], []⟩])] := ⟨GClOk.nil _⟩

theorem g38L : GCon Try.prog 38 G38L := by
  refine gconc E_ok (rs := [.tmp 4 22, .tmp 5 22, .tmp 6 36]) Try.func38 rfl Try.ntmps38 (by kernel_rfl) rfl (by decide) G38L (np := 2) ?_ ?_
  · intro HB xs h; unfold G38L; split <;> first | rfl | (simp at h; done)
  intro HB xs H r hG hwf hex
  unfold G38L at hG
  split at hG <;> try (cases hG; done)
  
  rename_i b lo len n
  split at hG
  case isFalse => cases hG
  rename_i hc
  have hb := hc
  cases hG
  by_cases h1 : n < 0
  · repeat refine St (And.intro @gentry.eq_1 <| @gentry.eq_2) ct38L ?_
    exact AWP.ret (Fin (And.intro @spR.eq_def <| h1) [] [0])
  by_cases h2 : (len : Int) < n
  · repeat refine St (And.intro @gentry.eq_1 <| @gentry.eq_2) ct38L ?_
    exact AWP.ret (Fin (And.intro @spR.eq_def <| And.intro h1 <| h2) [] [0])
  repeat refine St (And.intro @gentry.eq_1 <| @gentry.eq_2) ct38L ?_
  exact AWP.ret (Fin (And.intro @spR.eq_def <| And.intro h1 <| h2) [] [0])

theorem split_l {b x : List UInt8} (h : Sfx b x) (n : Int) : G38L [.by b] [.sub 0 [] 1 0 (b.length - x.length) x.length, .t (.int .i64 n)] = some ([.by b], .tup [eAV (spE x n) (.sub 0 [] 1 0 (b.length - x.length) (spA x n).length), eAV (spE x n) (.sub 0 [] 1 0 (b.length - (spB x n).length) (spB x n).length), .t (.int .i64 (spE x n))]) := by
  rw [← spR_eq h n]
  exact if_pos (by have := h.2; omega)

noncomputable def G40L : GFun
  | [.by b], [.sub 0 [] 1 0 lo len, .t (.int .i64 n)] => @ite _ ((lo + len = b.length ∧ n ≤ 8)) (Classical.propDecidable _) ((some ([.by b], .tup [.t (.int .u64 (num (spA (b.drop lo) n))), eAV (spE (b.drop lo) n) (.sub 0 [] 1 0 (b.length - (spB (b.drop lo) n).length) (spB (b.drop lo) n).length), .t (.int .i64 (spE (b.drop lo) n))]))) none
  | _, _ => none

theorem ct40L : CT [(38, ⟨[true, false], G38L⟩)] [0, 1, 4, 5, 6, 7, 8, 9, 10, 11, 20, 21, 22] [] := ⟨(.cons g38L (.nil _))⟩

theorem g40L : GCon Try.prog 40 G40L := by
  refine gconc E_ok (rs := [.tmp 4 23, .tmp 5 22, .tmp 6 36]) Try.func40 rfl Try.ntmps40 (by kernel_rfl) rfl (by decide) G40L (np := 2) ?_ ?_
  · intro HB xs h; unfold G40L; split <;> first | rfl | (simp at h; done)
  intro HB xs H r hG hwf hex
  unfold G40L at hG
  split at hG <;> try (cases hG; done)
  
  rename_i b lo len n
  split at hG
  case isFalse => cases hG
  rename_i hc
  obtain ⟨hb, hn⟩ := hc
  cases hG
  obtain ⟨y, hs, rfl, rfl⟩ := Sfx.of hb
  rw [← hs.1]
  have h8 := spA_le y n 8 hn
  have hsp := split_l hs n
  have hsl := hs.2
  by_cases he : spE y n = 0
  rotate_left
  · rw [eAV_1 he, eAV_1 he] at hsp
    rw [eAV_1 he]
    obtain ⟨q1, q2⟩ := sp_bad he
    rw [q1]
    repeat refine St (And.intro (And.intro @gentry.eq_1 <| @gentry.eq_2) <| hsp) ct40L ?_
    refine AWP.loop (G := Unit) (fun _ => ⟨[(8, .t (.by [])), (9, .t (.int .i64 (spE y n))), (10, .t (.int .u64 0)), (20, .t (.int .i64 0)), (21, .t (.int .i64 0))], [.by b]⟩)
      (fun _ => 0) () (Wt trivial [8, 9, 10, 20, 21] [0]) ?_
    intro _
    repeat refine St trivial ct40L ?_
    exact AWP.ret (Fin (And.intro @num.eq_1 <| @num.eq_2) [] [0])
  obtain ⟨q1, q2, q3, q4⟩ := spA_at hs he
  have hget : ∀ k, k < (spA y n).length → b.getD (b.length - y.length + k) 0 = (spA y n).getD k 0 := fun k hk => by
    rw [getD_at hs (by rw [q3] at hk; have := (sp_0 he).2.1; omega), (sp_0 he).2.2.1]
    rw [(sp_0 he).2.2.1, List.length_take] at hk
    simp [List.getD_eq_getElem?_getD, List.getElem?_take, show k < n.toNat by omega]
  have hle : b.length - y.length + (spA y n).length ≤ b.length := by omega
  rw [he, eAV_0, eAV_0] at hsp
  rw [he, eAV_0]
  generalize spA y n = x at *
  generalize (spB y n).length = r at *
  generalize hlo : b.length - y.length = lo at *
  repeat refine St (And.intro (And.intro @gentry.eq_1 <| @gentry.eq_2) <| hsp) ct40L ?_
  have hz : num (x.take 0) = 0 := by simp [num]
  refine AWP.loop (G := { k : Nat // k ≤ x.length }) (fun k => ⟨[(7, .sub 0 [] 1 0 lo x.length), (8, .sub 0 [] 1 0 (b.length - r) r), (9, .t (.int .i64 0)), (10, .t (.int .u64 (num (x.take k.1)))), (20, .t (.int .i64 (x.length : Int))), (21, .t (.int .i64 (k.1 : Int)))], [.by b]⟩)
    (fun k => x.length - k.1) ⟨0, by omega⟩ (Wt (And.intro hz <| (And.intro @num.eq_1 <| @num.eq_2)) [7, 8, 9, 10, 20, 21] [0]) ?_
  intro ⟨k, hk⟩
  dsimp only
  by_cases hlt : (k : Int) < (x.length : Int)
  · have hd := num_take x k (by omega)
    have h88 := num_lt8 (x.take (k + 1)) (by simp; omega)
    have hp := num_lt (x.take k)
    have htl : (x.take k).length = k := by simp; omega
    rw [htl] at hp
    have hc := (x.getD k 0).toNat_lt
    have e1 : IntKind.i64.wrap (8 * (k : Int)) = ((8 * k : Nat) : Int) := by rw [wrap_i64 (by omega) (by omega)]; omega
    have e2 : IntKind.u64.wrap (((x.getD k 0).toNat : Int) * 2 ^ min (8 * k) IntKind.u64.bits) = (((x.getD k 0).toNat * 256 ^ k : Nat) : Int) := by
      have := shl_step (x.getD k 0).toNat k (by omega) (by omega)
      simp only [arith, Int.toNat_natCast] at this
      rw [if_neg (by omega)] at this
      have h1 : min (8 * k) IntKind.u64.bits = min (8 * k) 64 := rfl
      simpa using this
    have e3 : abits .or .u64 (num (x.take k) : Int) (((x.getD k 0).toNat * 256 ^ k : Nat) : Int) = ((num (x.take (k + 1)) : Nat) : Int) := by
      have := or_step (num (x.take k)) (x.getD k 0).toNat k hp (by omega)
      rw [← hd] at this
      simpa only [arith, Option.some.injEq, T.int.injEq, true_and] using this
    have e0 : ¬ ((8 * k : Nat) : Int) < 0 := by omega
    have hkx : k < x.length := by omega
    have hkb : lo + k < b.length := by omega
    have hg := hget k hkx
    have e4 : IntKind.u64.wrap ((x.getD k 0).toNat : Int) = ((x.getD k 0).toNat : Int) := wrap_u64 (by omega) (by omega)
    repeat refine St (And.intro hkx <| And.intro hkb <| And.intro hg <| And.intro e0 <| And.intro e1 <| And.intro e2 <| And.intro e3 <| e4) ct40L ?_
    exact ⟨⟨k + 1, by omega⟩, (Wt trivial [7, 8, 9, 10, 20, 21] [0]), by simp only; omega⟩
  · obtain rfl : k = x.length := by omega
    repeat refine St trivial ct40L ?_
    exact AWP.ret (Fin (@List.take_length.{0}) [] [0])

theorem read_l {b x : List UInt8} (h : Sfx b x) (n : Int) (hn : n ≤ 8) : G40L [.by b] [.sub 0 [] 1 0 (b.length - x.length) x.length, .t (.int .i64 n)] = some ([.by b], .tup [.t (.int .u64 (num (spA x n))), eAV (spE x n) (.sub 0 [] 1 0 (b.length - (spB x n).length) (spB x n).length), .t (.int .i64 (spE x n))]) := by
  have h0 : G40L [.by b] [.sub 0 [] 1 0 (b.length - x.length) x.length, .t (.int .i64 n)] = some ([.by b], .tup [.t (.int .u64 (num (spA (b.drop (b.length - x.length)) n))), eAV (spE (b.drop (b.length - x.length)) n) (.sub 0 [] 1 0 (b.length - (spB (b.drop (b.length - x.length)) n).length) (spB (b.drop (b.length - x.length)) n).length), .t (.int .i64 (spE (b.drop (b.length - x.length)) n))]) := if_pos ⟨by have := h.2; omega, hn⟩
  rw [h0, ← h.1]

end Go.Fw

end

section
/- compact: sizes and lists, taken of bytes that are lent. -/
namespace Go.Fw
open Go Go.Proofs
set_option linter.unusedVariables false
set_option linter.unusedSimpArgs false

noncomputable def G41L : GFun
  | [.by b], [.sub 0 [] 1 0 lo len] => @ite _ ((lo + len = b.length)) (Classical.propDecidable _) ((some ([.by b], .tup [.t (.int .u64 ((sz (b.drop lo)).1 : Nat)), eAV (sz (b.drop lo)).2.2 (.sub 0 [] 1 0 (b.length - (sz (b.drop lo)).2.1.length) (sz (b.drop lo)).2.1.length), .t (.int .i64 (sz (b.drop lo)).2.2)]))) none
  | _, _ => none

theorem ct41L : CT [(40, ⟨[true, false], G40L⟩)] [0, 2, 3, 4, 5, 6, 7, 8, 9, 10, 18, 20, 23, 25, 27, 36, 40] [] := ⟨(.cons g40L (.nil _))⟩

set_option maxHeartbeats 2000000 in
theorem g41L : GCon Try.prog 41 G41L := by
  refine gconc E_ok (rs := [.tmp 2 23, .tmp 3 22, .tmp 4 36]) Try.func41 rfl Try.ntmps41 (by kernel_rfl) rfl (by decide) G41L (np := 1) ?_ ?_
  · intro HB xs h; unfold G41L; split <;> first | rfl | (simp at h; done)
  intro HB xs H r hG hwf hex
  unfold G41L at hG
  split at hG <;> try (cases hG; done)
  
  rename_i b lo len
  split at hG
  case isFalse => cases hG
  rename_i hc
  have hb := hc
  cases hG
  obtain ⟨a, hs, rfl, rfl⟩ := Sfx.of hb
  rw [← hs.1]
  have r1 := read_l hs 1 (by omega)
  have hy := spB_sfx hs 1
  have r2 := read_l hy 2 (by omega)
  have r4 := read_l hy 4 (by omega)
  have r8 := read_l hy 8 (by omega)
  have hsz := sz.eq_1 a
  generalize sz a = R at *
  generalize spB a 1 = y at *
  by_cases h1 : spE a 1 = 0
  case neg =>
    simp only [h1, ne_eq, not_false_eq_true, if_true] at hsz
    rw [eAV_1 h1] at r1
    subst hsz
    dsimp only
    rw [eAV_1 h1]
    repeat refine St (And.intro (And.intro @gentry.eq_1 <| @gentry.eq_2) <| r1) ct41L ?_
    exact AWP.ret (Fin trivial [] [0])
  simp only [h1, ne_eq, not_true_eq_false, if_false] at hsz
  rw [h1, eAV_0] at r1
  obtain ⟨x, hx⟩ : ∃ x : Nat, num (spA a 1) = x := ⟨_, rfl⟩
  rw [hx] at hsz r1
  by_cases h253 : x = 253
  case pos =>
    subst h253
    simp only [Nat.reduceEqDiff, if_true, if_false] at hsz
    unfold rdR at hsz
    by_cases k1 : spE y 2 = 0
    case neg =>
      simp only [k1, ne_eq, not_false_eq_true, if_true] at hsz
      rw [eAV_1 k1] at r2
      subst hsz
      dsimp only
      rw [eAV_1 k1]
      repeat refine St (And.intro (And.intro @gentry.eq_1 <| @gentry.eq_2) <| And.intro r1 <| r2) ct41L ?_
      exact AWP.ret (Fin trivial [] [0])
    simp only [k1, ne_eq, not_true_eq_false, if_false] at hsz
    rw [k1, eAV_0] at r2
    split at hsz
    · subst hsz
      dsimp only
      rw [eAV_1 (by decide)]
      repeat refine St (And.intro (And.intro @gentry.eq_1 <| @gentry.eq_2) <| And.intro r1 <| r2) ct41L ?_
      exact AWP.ret (Fin trivial [] [0])
    · subst hsz
      dsimp only
      rw [eAV_0]
      repeat refine St (And.intro (And.intro @gentry.eq_1 <| @gentry.eq_2) <| And.intro r1 <| r2) ct41L ?_
      exact AWP.ret (Fin trivial [] [0])
  by_cases h254 : x = 254
  case pos =>
    subst h254
    simp only [Nat.reduceEqDiff, if_true, if_false] at hsz
    unfold rdR at hsz
    by_cases k1 : spE y 4 = 0
    case neg =>
      simp only [k1, ne_eq, not_false_eq_true, if_true] at hsz
      rw [eAV_1 k1] at r4
      subst hsz
      dsimp only
      rw [eAV_1 k1]
      repeat refine St (And.intro (And.intro @gentry.eq_1 <| @gentry.eq_2) <| And.intro r1 <| r4) ct41L ?_
      exact AWP.ret (Fin trivial [] [0])
    simp only [k1, ne_eq, not_true_eq_false, if_false] at hsz
    rw [k1, eAV_0] at r4
    split at hsz
    · subst hsz
      dsimp only
      rw [eAV_1 (by decide)]
      repeat refine St (And.intro (And.intro @gentry.eq_1 <| @gentry.eq_2) <| And.intro r1 <| r4) ct41L ?_
      exact AWP.ret (Fin trivial [] [0])
    · subst hsz
      dsimp only
      rw [eAV_0]
      repeat refine St (And.intro (And.intro @gentry.eq_1 <| @gentry.eq_2) <| And.intro r1 <| r4) ct41L ?_
      exact AWP.ret (Fin trivial [] [0])
  by_cases h255 : x = 255
  case pos =>
    subst h255
    simp only [Nat.reduceEqDiff, if_true, if_false] at hsz
    unfold rdR at hsz
    by_cases k1 : spE y 8 = 0
    case neg =>
      simp only [k1, ne_eq, not_false_eq_true, if_true] at hsz
      rw [eAV_1 k1] at r8
      subst hsz
      dsimp only
      rw [eAV_1 k1]
      repeat refine St (And.intro (And.intro @gentry.eq_1 <| @gentry.eq_2) <| And.intro r1 <| r8) ct41L ?_
      exact AWP.ret (Fin trivial [] [0])
    simp only [k1, ne_eq, not_true_eq_false, if_false] at hsz
    rw [k1, eAV_0] at r8
    split at hsz
    · subst hsz
      dsimp only
      rw [eAV_1 (by decide)]
      repeat refine St (And.intro (And.intro @gentry.eq_1 <| @gentry.eq_2) <| And.intro r1 <| r8) ct41L ?_
      exact AWP.ret (Fin trivial [] [0])
    · subst hsz
      dsimp only
      rw [eAV_0]
      repeat refine St (And.intro (And.intro @gentry.eq_1 <| @gentry.eq_2) <| And.intro r1 <| r8) ct41L ?_
      exact AWP.ret (Fin trivial [] [0])
  simp only [h253, h254, h255, if_false] at hsz
  subst hsz
  dsimp only
  rw [eAV_0]
  repeat refine St (And.intro (And.intro @gentry.eq_1 <| @gentry.eq_2) <| r1) ct41L ?_
  exact AWP.ret (Fin trivial [] [0])

theorem size_l {b x : List UInt8} (h : Sfx b x) : G41L [.by b] [.sub 0 [] 1 0 (b.length - x.length) x.length] = some ([.by b], .tup [.t (.int .u64 ((sz x).1 : Nat)), eAV (sz x).2.2 (.sub 0 [] 1 0 (b.length - (sz x).2.1.length) (sz x).2.1.length), .t (.int .i64 (sz x).2.2)]) := by
  have h0 : G41L [.by b] [.sub 0 [] 1 0 (b.length - x.length) x.length] = some ([.by b], .tup [.t (.int .u64 ((sz (b.drop (b.length - x.length))).1 : Nat)), eAV (sz (b.drop (b.length - x.length))).2.2 (.sub 0 [] 1 0 (b.length - (sz (b.drop (b.length - x.length))).2.1.length) (sz (b.drop (b.length - x.length))).2.1.length), .t (.int .i64 (sz (b.drop (b.length - x.length))).2.2)]) := if_pos (by have := h.2; omega)
  rw [h0, ← h.1]

noncomputable def G44L : GFun
  | [.by b], [.sub 0 [] 1 0 lo len, .t (.int .i64 most)] => @ite _ ((lo + len = b.length)) (Classical.propDecidable _) ((some ([.by b], .tup [.t (.int .i64 ((bnd (b.drop lo) most).1 : Nat)), eAV (bnd (b.drop lo) most).2.2 (.sub 0 [] 1 0 (b.length - (bnd (b.drop lo) most).2.1.length) (bnd (b.drop lo) most).2.1.length), .t (.int .i64 (bnd (b.drop lo) most).2.2)]))) none
  | _, _ => none

theorem ct44L : CT [(41, ⟨[true], G41L⟩)] [0, 1, 4, 5, 6, 7, 8, 9, 16, 20] [] := ⟨(.cons g41L (.nil _))⟩

theorem g44L : GCon Try.prog 44 G44L := by
  refine gconc E_ok (rs := [.tmp 4 3, .tmp 5 22, .tmp 6 36]) Try.func44 rfl Try.ntmps44 (by kernel_rfl) rfl (by decide) G44L (np := 2) ?_ ?_
  · intro HB xs h; unfold G44L; split <;> first | rfl | (simp at h; done)
  intro HB xs H r hG hwf hex
  unfold G44L at hG
  split at hG <;> try (cases hG; done)
  
  rename_i b lo len most
  split at hG
  case isFalse => cases hG
  rename_i hc
  have hb := hc
  cases hG
  have hm := inK_i64 (by simpa only [AV.wf, T.wf] using hwf (.t (.int .i64 most)) (by simp))
  obtain ⟨a, hs, rfl, rfl⟩ := Sfx.of hb
  rw [← hs.1]
  have hz := size_l hs
  have hb := bnd.eq_1 a most
  generalize bnd a most = R at *
  generalize sz a = Z at *
  by_cases h1 : Z.2.2 = 0
  case neg =>
    simp only [h1, ne_eq, not_false_eq_true, if_true] at hb
    subst hb
    dsimp only
    rw [eAV_1 h1] at hz ⊢
    repeat refine St (And.intro (And.intro @gentry.eq_1 <| @gentry.eq_2) <| hz) ct44L ?_
    exact AWP.ret (Fin trivial [] [0])
  simp only [h1, ne_eq, not_true_eq_false, if_false] at hb
  rw [h1, eAV_0] at hz
  by_cases h2 : most < 0
  · simp only [h2, true_or, if_true] at hb
    subst hb
    dsimp only
    rw [eAV_1 (by decide)]
    repeat refine St (And.intro (And.intro @gentry.eq_1 <| @gentry.eq_2) <| And.intro hz <| h2) ct44L ?_
    exact AWP.ret (Fin trivial [] [0])
  have hw : IntKind.u64.wrap most = most := wrap_u64 (by omega) (by omega)
  by_cases h3 : most < (Z.1 : Int)
  · simp only [h3, or_true, if_true] at hb
    subst hb
    dsimp only
    rw [eAV_1 (by decide)]
    repeat refine St (And.intro (And.intro @gentry.eq_1 <| @gentry.eq_2) <| And.intro hz <| And.intro h2 <| And.intro h3 <| hw) ct44L ?_
    exact AWP.ret (Fin trivial [] [0])
  simp only [h2, h3, or_self, if_false] at hb
  subst hb
  dsimp only
  rw [eAV_0]
  repeat refine St (And.intro (And.intro @gentry.eq_1 <| @gentry.eq_2) <| And.intro hz <| And.intro h2 <| And.intro h3 <| hw) ct44L ?_
  exact AWP.ret (Fin trivial [] [0])

theorem bounded_l {b x : List UInt8} (h : Sfx b x) (most : Int) : G44L [.by b] [.sub 0 [] 1 0 (b.length - x.length) x.length, .t (.int .i64 most)] = some ([.by b], .tup [.t (.int .i64 ((bnd x most).1 : Nat)), eAV (bnd x most).2.2 (.sub 0 [] 1 0 (b.length - (bnd x most).2.1.length) (bnd x most).2.1.length), .t (.int .i64 (bnd x most).2.2)]) := by
  have h0 : G44L [.by b] [.sub 0 [] 1 0 (b.length - x.length) x.length, .t (.int .i64 most)] = some ([.by b], .tup [.t (.int .i64 ((bnd (b.drop (b.length - x.length)) most).1 : Nat)), eAV (bnd (b.drop (b.length - x.length)) most).2.2 (.sub 0 [] 1 0 (b.length - (bnd (b.drop (b.length - x.length)) most).2.1.length) (bnd (b.drop (b.length - x.length)) most).2.1.length), .t (.int .i64 (bnd (b.drop (b.length - x.length)) most).2.2)]) := if_pos (by have := h.2; omega)
  rw [h0, ← h.1]

/-- A string, where it lies; what is left. -/
noncomputable def strR (b x : List UInt8) (most : Int) : AV := .tup [eAV (lim x most).2.2 (.sub 0 [] 1 0 (b.length - (bnd x most).2.1.length) (lim x most).1.length), eAV (lim x most).2.2 (.sub 0 [] 1 0 (b.length - (lim x most).2.1.length) (lim x most).2.1.length), .t (.int .i64 (lim x most).2.2)]

noncomputable def G42L : GFun
  | [.by b], [.sub 0 [] 1 0 lo len, .t (.int .i64 most)] => @ite _ ((lo + len = b.length)) (Classical.propDecidable _) ((some ([.by b], strR b (b.drop lo) most))) none
  | _, _ => none

theorem ct42L : CT [(38, ⟨[true, false], G38L⟩), (44, ⟨[true, false], G44L⟩)] [0, 1, 4, 5, 6, 7, 8, 9, 18] [] := ⟨(.cons g38L (.cons g44L (.nil _)))⟩

theorem g42L : GCon Try.prog 42 G42L := by
  refine gconc E_ok (rs := [.tmp 4 22, .tmp 5 22, .tmp 6 36]) Try.func42 rfl Try.ntmps42 (by kernel_rfl) rfl (by decide) G42L (np := 2) ?_ ?_
  · intro HB xs h; unfold G42L; split <;> first | rfl | (simp at h; done)
  intro HB xs H r hG hwf hex
  unfold G42L at hG
  split at hG <;> try (cases hG; done)
  
  rename_i b lo len most
  split at hG
  case isFalse => cases hG
  rename_i hc
  have hb := hc
  cases hG
  obtain ⟨a, hs, rfl, rfl⟩ := Sfx.of hb
  rw [← hs.1]
  have hz := bounded_l hs most
  by_cases h1 : (bnd a most).2.2 = 0
  · have hl : lim a most = (spA (bnd a most).2.1 (bnd a most).1, spB (bnd a most).2.1 (bnd a most).1, spE (bnd a most).2.1 (bnd a most).1) := by simp only [lim, h1, ne_eq, not_true_eq_false, if_false]
    have hsp := split_l (bnd_sfx hs most) ((bnd a most).1 : Int)
    unfold strR
    rw [hl]
    dsimp only
    rw [h1, eAV_0] at hz
    generalize bnd a most = R at *
    by_cases k1 : spE R.2.1 (R.1 : Int) = 0
    · rw [k1, eAV_0, eAV_0] at hsp ⊢
      repeat refine St (And.intro (And.intro @gentry.eq_1 <| @gentry.eq_2) <| And.intro hz <| hsp) ct42L ?_
      exact AWP.ret (Fin trivial [] [0])
    · rw [eAV_1 k1, eAV_1 k1] at hsp ⊢
      repeat refine St (And.intro (And.intro @gentry.eq_1 <| @gentry.eq_2) <| And.intro hz <| hsp) ct42L ?_
      exact AWP.ret (Fin trivial [] [0])
  · have hl : lim a most = ([], [], (bnd a most).2.2) := by simp only [lim, h1, ne_eq, not_false_eq_true, if_true]
    unfold strR
    rw [hl]
    dsimp only
    rw [eAV_1 h1] at hz ⊢
    rw [eAV_1 h1]
    repeat refine St (And.intro (And.intro @gentry.eq_1 <| @gentry.eq_2) <| hz) ct42L ?_
    exact AWP.ret (Fin trivial [] [0])

theorem str_l {b x : List UInt8} (h : Sfx b x) (most : Int) : G42L [.by b] [.sub 0 [] 1 0 (b.length - x.length) x.length, .t (.int .i64 most)] = some ([.by b], strR b x most) := by
  have h0 : G42L [.by b] [.sub 0 [] 1 0 (b.length - x.length) x.length, .t (.int .i64 most)] = some ([.by b], strR b (b.drop (b.length - x.length)) most) := if_pos (by have := h.2; omega)
  rw [h0, ← h.1]

end Go.Fw

end

section
/- compact: strings and lists in memory of their own, taken of bytes that are lent. -/
namespace Go.Fw
open Go Go.Proofs
set_option linter.unusedVariables false
set_option linter.unusedSimpArgs false

noncomputable def G29L : GFun
  | [.by b], [.sub 0 [] 1 0 lo len, .t (.int .i64 most)] => @ite _ ((lo = 0 ∧ len = b.length ∧ b.length ≤ 549755812000)) (Classical.propDecidable _) ((some ([.by b], .tup [.t (.by (lim b most).1), .t (.by (lim b most).2.1), .t (.int .i64 (lim b most).2.2)]))) none
  | _, _ => none

theorem ct29L : CT [(39, ⟨[true], G39L⟩), (42, ⟨[true, false], G42L⟩)] [0, 1, 4, 5, 6, 7, 8, 9] [] := ⟨(.cons g39L (.cons g42L (.nil _)))⟩

theorem g29L : GCon Try.prog 29 G29L := by
  refine gconc E_ok (rs := [.tmp 4 22, .tmp 5 22, .tmp 6 36]) Try.func29 rfl Try.ntmps29 (by kernel_rfl) rfl (by decide) G29L (np := 2) ?_ ?_
  · intro HB xs h; unfold G29L; split <;> first | rfl | (simp at h; done)
  intro HB xs H r hG hwf hex
  unfold G29L at hG
  split at hG <;> try (cases hG; done)
  
  rename_i b lo len most
  split at hG
  case isFalse => cases hG
  rename_i hc
  obtain ⟨hlo, hlen, hb⟩ := hc
  cases hG
  subst hlo hlen
  have h1 := str_l (Sfx.self b) most
  rw [Nat.sub_self] at h1
  unfold strR at h1
  by_cases he : (lim b most).2.2 = 0
  · rw [he, eAV_0, eAV_0] at h1
    rw [he]
    obtain ⟨q1, q2⟩ := lim_at (Sfx.self b) he
    have q3 := lim_sfx (Sfx.self b) most
    have c1 := copied_l (x := (lim b most).1) q2 (by omega) q1
    have c2 := copied_l (b := b) (x := (lim b most).2.1) (lo := b.length - (lim b most).2.1.length) (by have := q3.2; omega) (by omega) (by rw [← q3.1, List.take_length])
    generalize lim b most = R at *
    repeat refine St (And.intro (And.intro @gentry.eq_1 <| @gentry.eq_2) <| And.intro h1 <| And.intro c1 <| c2) ct29L ?_
    exact AWP.ret (Fin trivial [1, 2] [0])
  · have hl : (lim b most).1 = [] ∧ (lim b most).2.1 = [] := by
      unfold lim at he ⊢
      split
      · exact ⟨rfl, rfl⟩
      · rename_i hn
        rw [if_neg hn] at he
        exact sp_bad (b := (bnd b most).2.1) (n := (bnd b most).1) he
    rw [eAV_1 he, eAV_1 he] at h1
    have c1 := copied_n (b := []) (by simp)
    obtain ⟨l1, l2⟩ := hl
    generalize lim b most = R at *
    obtain ⟨x, y, e⟩ := R
    dsimp only at l1 l2 h1 ⊢
    subst l1 l2
    repeat refine St (And.intro (And.intro @gentry.eq_1 <| @gentry.eq_2) <| And.intro h1 <| c1) ct29L ?_
    exact AWP.ret (Fin trivial [1, 2] [0])

noncomputable def G31L : GFun
  | [.by b], [.sub 0 [] 1 0 lo len, .t (.int .i64 many), .t (.int .i64 most)] => @ite _ ((lo = 0 ∧ len = b.length ∧ b.length ≤ 549755812000)) (Classical.propDecidable _) ((some ([.by b], .tup [.t (.sq 1 ((lst b many most).1.map .by)), .t (.by (lst b many most).2.1), .t (.int .i64 (lst b many most).2.2)]))) none
  | _, _ => none

theorem ct31L : CT [(39, ⟨[true], G39L⟩), (42, ⟨[true, false], G42L⟩), (44, ⟨[true, false], G44L⟩)] [0, 1, 2, 6, 7, 8, 9, 10, 11, 12, 13, 14, 15, 24, 26, 27, 28, 37] [] := ⟨(.cons g39L (.cons g42L (.cons g44L (.nil _))))⟩

set_option maxHeartbeats 2000000 in
theorem g31L : GCon Try.prog 31 G31L := by
  refine gconc E_ok (rs := [.tmp 6 31, .tmp 7 22, .tmp 8 36]) Try.func31 rfl Try.ntmps31 (by kernel_rfl) rfl (by decide) G31L (np := 3) ?_ ?_
  · intro HB xs h; unfold G31L; split <;> first | rfl | (simp at h; done)
  intro HB xs H r hG hwf hex
  unfold G31L at hG
  split at hG <;> try (cases hG; done)
  
  rename_i b lo len many most
  split at hG
  case isFalse => cases hG
  rename_i hc
  obtain ⟨hlo, hlen, hb⟩ := hc
  cases hG
  subst hlo hlen
  have hmany := inK_i64 (by simpa only [AV.wf, T.wf] using hwf (.t (.int .i64 many)) (by simp))
  have hbl := bnd_len b many
  have hlt := bnd_lt b many hmany.2
  have hbd := bounded_l (Sfx.self b) many
  have hqs := bnd_sfx (Sfx.self b) many
  rw [Nat.sub_self] at hbd
  by_cases h1 : (bnd b many).2.2 = 0
  case neg =>
    have hl : lst b many most = ([], [], (bnd b many).2.2) := by simp only [lst, h1, ne_eq, not_false_eq_true, if_true]
    rw [hl, eAV_1 h1] at *
    repeat refine St (And.intro (And.intro @gentry.eq_1 <| @gentry.eq_2) <| hbd) ct31L ?_
    exact AWP.ret (Fin (@List.map_nil.{0, 0}) [] [0])
  have hl : lst b many most = tkF most (bnd b many).1 [] (bnd b many).2.1 := by simp only [lst, h1, ne_eq, not_true_eq_false, if_false]
  rw [hl]
  rw [h1, eAV_0] at hbd
  generalize (bnd b many).2.1 = q at *
  generalize (bnd b many).1 = n at *
  repeat refine St (And.intro (And.intro @gentry.eq_1 <| @gentry.eq_2) <| hbd) ct31L ?_
  refine AWP.weak (Wo 12 (.sq 1 [])) ?_
  refine AWP.loop (G := { p : Nat × List (List UInt8) × List UInt8 // p.1 ≤ n ∧ p.2.1.length = p.1 ∧ p.2.1.length + p.2.2.length ≤ q.length ∧ tkF most (n - p.1) p.2.1 p.2.2 = tkF most n [] q ∧ Sfx b p.2.2 })
    (fun p => ⟨[(2, .t (.int .i64 most)), (10, .sub 0 [] 1 0 (b.length - p.1.2.2.length) p.1.2.2.length), (12, .own 1), (26, .t (.int .i64 n)), (27, .t (.int .i64 (p.1.1 : Int)))], [.by b, .sq 1 (p.1.2.1.map .by)]⟩)
    (fun p => n - p.1.1) ⟨(0, [], q), by simp [hqs]⟩ (Wt trivial [2, 10, 12, 26, 27] [0, 1]) ?_
  intro ⟨⟨k, acc, r⟩, hk, ha, hr, ht, hsr⟩
  dsimp only at hk ha hr ht hsr ⊢
  by_cases hkn : (k : Int) < (n : Int)
  · have hs : n - k = (n - (k + 1)) + 1 := by omega
    rw [hs, tkF_succ] at ht
    obtain ⟨hlm1, hlm2⟩ := lim_len r most
    have hst := str_l hsr most
    unfold strR at hst
    by_cases h3 : (lim r most).2.2 = 0
    · rw [if_neg (by simp [h3])] at ht
      have he := lim_eat h3
      obtain ⟨q1, q2⟩ := lim_at hsr h3
      have q3 := lim_sfx hsr most
      have hcp := copied_l (x := (lim r most).1) q2 (by omega) q1
      have hal : (acc.map T.by).length ≤ 549755812000 := by simp; omega
      rw [h3, eAV_0, eAV_0] at hst
      generalize lim r most = R at *
      obtain ⟨x, y, e⟩ := R
      dsimp only at *
      generalize (bnd r most).2.1.length = z at *
      repeat refine St (And.intro hst <| And.intro hcp <| hal) ct31L ?_
      exact ⟨⟨(k + 1, acc ++ [x], y), by omega, by simp; omega, by simp; omega, ht, q3⟩, (Wt @map_snoc [2, 10, 12, 26, 27] [0, 4]), by simp only; omega⟩
    · rw [if_pos h3] at ht
      rw [eAV_1 h3, eAV_1 h3] at hst
      repeat refine St hst ct31L ?_
      exact AWP.ret (Fin (And.intro ht.symm <| @List.map_nil.{0, 0}) [] [0])
  · obtain rfl : k = n := by omega
    rw [Nat.sub_self] at ht
    have hcp := copied_l (b := b) (x := r) (lo := b.length - r.length) (by have := hsr.2; omega) (by omega) (by rw [← hsr.1, List.take_length])
    repeat refine St hcp ct31L ?_
    exact AWP.ret (Fin (And.intro ht.symm <| (And.intro @tkF.eq_1 <| @tkF.eq_2)) [1, 2] [0])

end Go.Fw

end

section
/- Chapter 1: CompactTakes: the list that was told is overwritten. -/
namespace Go.Fw
open Go Go.Proofs Go.RowKit
set_option linter.unusedVariables false
set_option linter.unusedSimpArgs false

/-- The loops of CompactTakes. -/
noncomputable def spoilC : Code := fstC (sndC (sndC (sndC (sndC (sndC (sndC (sndC (sndC (sndC (Try.f6.body.getD .skip))))))))))

set_option maxRecDepth 8000 in
set_option maxHeartbeats 4000000 in
theorem spoil {c : Ctx} (hk : c.k = 0) {Mb : Nat → Option Obj} (hcM : MLe c.M0 Mb) {m : Mem} {w : World} {a : Act} {us : List Value} {b0 : List UInt8} {v0 vb : Value} (hI : Inv c m w [.by b0]) (hS : RelS m 122 a [(15, .t (.sq 1 (us.map .op))), (7, .own 0), (14, .t (.bool true))])
    (h15 : a.tmps.getD 15 undef = v0) (h0 : a.tmps.getD 0 undef = vb) (hM : MLe Mb m.M) (hF : ∀ u ∈ us, Scr c.w0.heap.size Mb m.M u)
    {K : Exit → Act → World → Prop} (hK : ∀ m' w' a', Inv c m' w' [.by b0] → RelS m' 122 a' [(7, .own 0), (14, .t (.bool true))] → a'.tmps.getD 0 undef = vb → MLe Mb m'.M → K .normal a' w') : spoilC.wpIn Fence.wide 0 Try.prog K a w := by
  have hlen : us.length ≤ maxLen := by
    have := (show RelA m (.t (.sq 1 (us.map .op))) _ from hS.2.2 15).t_inv.wf
    simp only [T.wf, List.length_map] at this
    exact this.2.1
  unfold maxLen at hlen
  dsimp only [spoilC, sndC, fstC, Try.f6, Option.getD]
  refine wpIn_seq ?_
  refine reg_step X_ok (GClOk.nil _) (S := ⟨_, _⟩) (c := ctxK w m [.by b0] 1) rfl (Ev trivial) (inv_ctxK hI (by simp)) hS (fun i => i = 0 ∨ i = 15) (by rintro i (rfl | rfl) o ho <;> (revert o; decide)) (fun m5 w5 a5 i5 r5 k5 => ?_)
  have hI5 : Inv c m5 w5 [.by b0] := inv_comp hI (by omega) i5
  have hM5 : MLe Mb m5.M := hM.trans i5.le
  have hF5 : ∀ u ∈ us, Scr c.w0.heap.size Mb m5.M u := fun u hu => (hF u hu).mono i5.le
  have a0 := (k5 0 (.inl rfl)).trans h0
  have a15 := (k5 15 (.inr rfl)).trans h15
  clear i5 hI hS hF hM k5
  refine wpIn_block ?_
  refine wpIn_loop (fun a w => ∃ i m, i ≤ us.length ∧ Inv c m w [.by b0] ∧ RelS m 122 a [(17, .t (.int .i64 ((i : Nat) : Int))), (15, .t (.sq 1 (us.map .op))), (7, .own 0), (14, .t (.bool true))] ∧ a.tmps.getD 0 undef = vb ∧ a.tmps.getD 15 undef = v0 ∧ MLe Mb m.M ∧ ∀ u ∈ us, Scr c.w0.heap.size Mb m.M u) (fun a _ => cntS us.length 17 a) ⟨0, m5, Nat.zero_le _, hI5, r5, a0, a15, hM5, hF5⟩ ?_
  clear hI5 hF5 r5 a0 a15 hM5
  rintro a1 w1 ⟨i, m1, hi, hI1, r1, b0', b15, hM1, hF1⟩
  have hcnt := cntS_val (n := us.length) r1 (z := i) (j := 17) rfl
  have hXl : (us.map T.op).length = us.length := List.length_map ..
  by_cases hlt : i < us.length
  rotate_left
  · obtain rfl : i = us.length := by omega
    have hlt2 : ((us.length : Int) < (us.length : Int)) = False := by simp
    refine wpIn_seq (wpIn_seq ?_)
    refine reg_step X_ok (GClOk.nil _) (S := ⟨_, _⟩) (c := ctxK w1 m1 [.by b0] 1) rfl (Ev (And.intro hlt2 hXl)) (inv_ctxK hI1 (by simp)) r1 (fun i => i = 0 ∨ i = 15) (by rintro i (rfl | rfl) o ho <;> (revert o; decide)) (fun m3 w3 a3 i3 r3 k3 => ?_)
    refine wpIn_cond_false ((r3.2.2 93).bool_inv) (wpIn_exit ?_)
    show K _ _ _
    exact hK m3 w3 a3 (inv_comp hI1 (by omega) i3) (r3.prune [7, 14]) ((k3 0 (.inl rfl)).trans b0') (hM1.trans i3.le)
  have hlt2 : (i : Int) < (us.length : Int) := by omega
  refine wpIn_seq (wpIn_seq ?_)
  refine reg_step X_ok (GClOk.nil _) (S := ⟨_, _⟩) (c := ctxK w1 m1 [.by b0] 1) rfl (Ev (And.intro hlt2 hXl)) (inv_ctxK hI1 (by simp)) r1 (fun i => i = 0 ∨ i = 15) (by rintro i (rfl | rfl) o ho <;> (revert o; decide)) (fun m2 w2 a2 i2 r2 k2 => ?_)
  refine wpIn_cond_true ((r2.2.2 93).bool_inv) (wpIn_skip ?_)
  have hI2 : Inv c m2 w2 [.by b0] := inv_comp hI1 (by omega) i2
  have hM2 := hM1.trans i2.le
  have hF2 : ∀ u ∈ us, Scr c.w0.heap.size Mb m2.M u := fun u hu => (hF1 u hu).mono i2.le
  have s2 : RelS m2 122 a2 [(17, .t (.int .i64 ((i : Nat) : Int))), (15, .t (.sq 1 (us.map .op))), (7, .own 0), (14, .t (.bool true))] := r2.prune [17, 15, 7, 14]
  have c0 := (k2 0 (.inl rfl)).trans b0'
  have c15 := (k2 15 (.inr rfl)).trans b15
  clear i2 hI1 hF1 r1 r2 k2 hM1 b0' b15
  refine wpIn_seq (wpIn_block (wpIn_seq ?_))
  refine reg_step X_ok (GClOk.nil _) (S := ⟨_, _⟩) (c := ctxK w2 m2 [.by b0] 1) rfl (Ev trivial) (inv_ctxK hI2 (by simp)) s2 (fun i => i = 0 ∨ i = 15) (by rintro i (rfl | rfl) o ho <;> (revert o; decide)) (fun m3 w3 a3 i3 r3 k3 => ?_)
  have hI3 : Inv c m3 w3 [.by b0] := inv_comp hI2 (by omega) i3
  have hM3 := hM2.trans i3.le
  have hF3 : ∀ u ∈ us, Scr c.w0.heap.size Mb m3.M u := fun u hu => (hF2 u hu).mono i3.le
  have d0 := (k3 0 (.inl rfl)).trans c0
  have d15 := (k3 15 (.inr rfl)).trans c15
  clear i3 hI2 hF2 s2 k3 hM2 c0 c15
  have hg := op_getD us hlt
  have hmem := mem_getD hlt
  obtain ⟨u, hu⟩ : ∃ u, u = us.getD i undef := ⟨_, rfl⟩
  rw [← hu] at hg hmem
  obtain ⟨sl, hsl⟩ : ∃ sl : Nat, ∃ ad cap, u = .slice ad sl cap := by
    obtain ⟨ad, len, cap, h, _⟩ := hF3 u hmem
    exact ⟨len, ad, cap, h⟩
  obtain ⟨ad, cap, hsl⟩ := hsl
  refine wpIn_block ?_
  refine wpIn_loop (fun a w => ∃ k m, k ≤ sl ∧ Inv c m w [.by b0] ∧ RelS m 122 a [(18, .t (.int .i64 ((k : Nat) : Int))), (17, .t (.int .i64 ((i : Nat) : Int))), (15, .t (.sq 1 (us.map .op))), (7, .own 0), (14, .t (.bool true))] ∧ a.tmps.getD 0 undef = vb ∧ a.tmps.getD 15 undef = v0 ∧ MLe Mb m.M ∧ ∀ u ∈ us, Scr c.w0.heap.size Mb m.M u) (fun a _ => cntS sl 18 a) ⟨0, m3, Nat.zero_le _, hI3, r3, d0, d15, hM3, hF3⟩ ?_
  clear hI3 hF3 r3 d0 d15 hM3
  rintro a4 w4 ⟨k, m4, hk4, hI4, r4, e0, e15, hM4, hF4⟩
  have hcnt4 := cntS_val (n := sl) r4 (z := k) (j := 18) rfl
  refine wpIn_seq (wpIn_seq (wpIn_region_lit ?_))
  refine reg_pre X_ok (GClOk.nil _) (pre := [_, _, _, _, _]) (rest := [_, _]) (S := ⟨_, _⟩) (c := ctxK w4 m4 [.by b0] 1) rfl (Ev (And.intro hlt <| And.intro hlt2 <| And.intro hXl hg)) (inv_ctxK hI4 (by simp)) r4 (fun i => i = 0 ∨ i = 15) (by rintro i (rfl | rfl) o ho <;> (revert o; decide)) (fun m5 w5 a5 i5 r5 k5 => ?_)
  have hI5 : Inv c m5 w5 [.by b0] := inv_comp hI4 (by omega) i5
  have hM5 := hM4.trans i5.le
  have hF5 : ∀ u ∈ us, Scr c.w0.heap.size Mb m5.M u := fun u hu => (hF4 u hu).mono i5.le
  have f0 := (k5 0 (.inl rfl)).trans e0
  have f15 := (k5 15 (.inr rfl)).trans e15
  have slm : sl ≤ maxLen := by
    obtain ⟨ad', len', cap', h1, h2, _⟩ := hF5 u hmem
    rw [hsl] at h1; cases h1; exact h2
  have hin : inK .i64 (sl : Int) := by unfold maxLen at slm; simp [inK, IntKind.min, IntKind.max, IntKind.signed, IntKind.bits]; omega
  have v100 : a5.eval (.tmp 100) = .slice ad sl cap := by
    rw [← hsl]
    exact (show RelA m5 (.t (.op u)) (a5.tmps.getD 100 undef) from r5.2.2 100).t_inv.op_inv
  refine wl_len E_ok rfl rfl (e := 5) rfl v100 ?_
  have s5 : RelS m5 122 (a5.put (some 101) (.int .i64 (sl : Int))) [(101, .t (.int .i64 (sl : Int))), (96, .t (.int .i64 (k : Int))), (18, .t (.int .i64 (k : Int))), (17, .t (.int .i64 ((i : Nat) : Int))), (15, .t (.sq 1 (us.map .op))), (7, .own 0), (14, .t (.bool true))] :=
    RelS.puts (o := { dst := some 101, op := .move (.tmp 0), type := 0, pos := "", after := #[], guard := none }) (r5.prune [96, 18, 17, 15, 7, 14]) (.t (.int hin)) rfl
  have g0 : (a5.put (some 101) (.int .i64 (sl : Int))).tmps.getD 0 undef = vb := (put_tmp _ _ _ 0 (by decide)).trans f0
  have g15 : (a5.put (some 101) (.int .i64 (sl : Int))).tmps.getD 15 undef = v0 := (put_tmp _ _ _ 15 (by decide)).trans f15
  generalize a5.put (some 101) (.int .i64 (sl : Int)) = a5' at *
  clear i5 r5 v100 hI4 hF4 r4 f0 f15 k5 hM4 e0 e15
  by_cases hkl : k < sl
  rotate_left
  · obtain rfl : k = sl := by omega
    have hkl2 : ((k : Int) < (k : Int)) = False := by simp
    refine reg_pre X_ok (GClOk.nil _) (pre := [_]) (rest := []) (S := ⟨_, _⟩) (c := ctxK w5 m5 [.by b0] 1) rfl (Ev hkl2) (inv_ctxK hI5 (by simp)) s5 (fun i => i = 0 ∨ i = 15) (by rintro i (rfl | rfl) o ho <;> (revert o; decide)) (fun m6 w6 a6 i6 r6 k6 => wpListIn_nil ?_)
    refine wpIn_cond_false ((r6.2.2 102).bool_inv) (wpIn_exit ?_)
    have hI6 : Inv c m6 w6 [.by b0] := inv_comp hI5 (by omega) i6
    have hM6 := hM5.trans i6.le
    have hF6 : ∀ u ∈ us, Scr c.w0.heap.size Mb m6.M u := fun u hu => (hF5 u hu).mono i6.le
    have s6 : RelS m6 122 a6 [(17, .t (.int .i64 ((i : Nat) : Int))), (15, .t (.sq 1 (us.map .op))), (7, .own 0), (14, .t (.bool true))] := r6.prune [17, 15, 7, 14]
    have h0 := (k6 0 (.inl rfl)).trans g0
    have h15 := (k6 15 (.inr rfl)).trans g15
    clear i6 r6 hI5 hF5 s5 k6
    show Code.wpIn _ _ _ _ _ _ _
    have hiw : IntKind.i64.wrap ((i : Int) + 1) = (i : Int) + 1 := by rw [wrap_i64 (by omega) (by omega)]
    refine reg_step X_ok (GClOk.nil _) (S := ⟨_, _⟩) (c := ctxK w6 m6 [.by b0] 1) rfl (Ev hiw) (inv_ctxK hI6 (by simp)) s6 (fun i => i = 0 ∨ i = 15) (by rintro i (rfl | rfl) o ho <;> (revert o; decide)) (fun m7 w7 a7 i7 r7 k7 => ?_)
    have e1 : (i : Int) + 1 = ((i + 1 : Nat) : Int) := by omega
    have s7 : RelS m7 122 a7 [(17, .t (.int .i64 ((i : Nat) + 1 : Int))), (15, .t (.sq 1 (us.map .op))), (7, .own 0), (14, .t (.bool true))] := r7.prune [17, 15, 7, 14]
    rw [e1] at s7
    refine ⟨⟨i + 1, m7, hlt, inv_comp hI6 (by omega) i7, s7, (k7 0 (.inl rfl)).trans h0, (k7 15 (.inr rfl)).trans h15, hM6.trans i7.le, fun u hu => (hF6 u hu).mono i7.le⟩, ?_⟩
    rw [cntS_val s7 (j := 17) rfl, hcnt]
    simp only [Int.toNat_natCast]
    omega
  have hkl2 : (k : Int) < (sl : Int) := by omega
  refine reg_pre X_ok (GClOk.nil _) (pre := [_]) (rest := []) (S := ⟨_, _⟩) (c := ctxK w5 m5 [.by b0] 1) rfl (Ev hkl2) (inv_ctxK hI5 (by simp)) s5 (fun i => i = 0 ∨ i = 15) (by rintro i (rfl | rfl) o ho <;> (revert o; decide)) (fun m6 w6 a6 i6 r6 k6 => wpListIn_nil ?_)
  refine wpIn_cond_true ((r6.2.2 102).bool_inv) (wpIn_skip ?_)
  have hI6 : Inv c m6 w6 [.by b0] := inv_comp hI5 (by omega) i6
  have hM6 := hM5.trans i6.le
  have hF6 : ∀ u ∈ us, Scr c.w0.heap.size Mb m6.M u := fun u hu => (hF5 u hu).mono i6.le
  have s6 : RelS m6 122 a6 [(18, .t (.int .i64 (k : Int))), (17, .t (.int .i64 ((i : Nat) : Int))), (15, .t (.sq 1 (us.map .op))), (7, .own 0), (14, .t (.bool true))] := r6.prune [18, 17, 15, 7, 14]
  have h0 := (k6 0 (.inl rfl)).trans g0
  have h15 := (k6 15 (.inr rfl)).trans g15
  clear i6 r6 hI5 hF5 s5 k6 g0 g15 hM5
  refine wpIn_seq (wpIn_block ?_)
  refine wpIn_region_lit ?_
  refine reg_pre X_ok (GClOk.nil _) (pre := [_, _, _, _, _]) (rest := [_, _]) (S := ⟨_, _⟩) (c := ctxK w6 m6 [.by b0] 1) rfl (Ev (And.intro hlt <| And.intro hlt2 <| And.intro hXl hg)) (inv_ctxK hI6 (by simp)) s6 (fun i => i = 0 ∨ i = 15) (by rintro i (rfl | rfl) o ho <;> (revert o; decide)) (fun m7 w7 a7 i7 r7 k7 => ?_)
  have hI7 : Inv c m7 w7 [.by b0] := inv_comp hI6 (by omega) i7
  have hM7 := hM6.trans i7.le
  have hF7 : ∀ u ∈ us, Scr c.w0.heap.size Mb m7.M u := fun u hu => (hF6 u hu).mono i7.le
  have j0 := (k7 0 (.inl rfl)).trans h0
  have j15 := (k7 15 (.inr rfl)).trans h15
  obtain ⟨ad', len', cap', q1, _, q2⟩ := hF7 u hmem
  rw [hsl] at q1
  cases q1
  rcases q2 with q2 | ⟨b, off, cs, e, fr, rfl, hnb, hMbb, hMb, hpl, hcl, hu8⟩
  · omega
  have v108 : a7.eval (.tmp 108) = .slice (some ⟨b, off, none⟩) sl cap := by
    rw [← hsl]
    exact (show RelA m7 (.t (.op u)) (a7.tmps.getD 108 undef) from r7.2.2 108).t_inv.op_inv
  have v109 : a7.eval (.tmp 109) = .int .i64 (k : Int) := (r7.2.2 109).int_inv.1
  obtain ⟨n8, hn8⟩ := hu8 k hkl
  refine wl_indexO E_ok rfl rfl (e := 5) rfl rfl v108 v109 (by omega) hkl2 ?_
  rw [Int.toNat_natCast]
  have s7 : RelS m7 122 (a7.put (some 110) (.pointer (some ⟨b, off + k, none⟩))) [(110, .any), (18, .t (.int .i64 (k : Int))), (17, .t (.int .i64 ((i : Nat) : Int))), (15, .t (.sq 1 (us.map .op))), (7, .own 0), (14, .t (.bool true))] :=
    RelS.puts (o := { dst := some 110, op := .move (.tmp 0), type := 0, pos := "", after := #[], guard := none }) (r7.prune [18, 17, 15, 7, 14]) .any rfl
  have v110 : (a7.put (some 110) (.pointer (some ⟨b, off + k, none⟩))).eval (.tmp 110) = .pointer (some ⟨b, off + k, none⟩) := by
    have h99 := r7.2.1
    simp [Act.put, Act.eval, Deferred.ofValue, h99]
  have l0 : (a7.put (some 110) (.pointer (some ⟨b, off + k, none⟩))).tmps.getD 0 undef = vb := (put_tmp _ _ _ 0 (by decide)).trans j0
  have l15 : (a7.put (some 110) (.pointer (some ⟨b, off + k, none⟩))).tmps.getD 15 undef = v0 := (put_tmp _ _ _ 15 (by decide)).trans j15
  refine wl_store E_ok rfl rfl rfl v110 rfl (hI7.imm _ _ hMb) hpl (by omega) ?_
  intro w8 g1 g3 g4 g5 g6 g7
  refine wpListIn_nil ?_
  have hh : ∀ c ∈ T.cellsL (us.map .op), hard c := hard_op hF7
  have hI8 := inv_setM hI7 hMb hnb (by
    cases hx : c.M0 b with
    | none => rfl
    | some o => have := hcM b o hx; rw [hMbb] at this; cases this) hpl (p := off + k) (z := 76) g1 g3 g4 g5 g6 g7
  have hF8 : ∀ u ∈ us, Scr c.w0.heap.size Mb (setM m7.M b (.cells (cs.setIfInBounds (off + k) (.int .u8 76)) e fr)) u := fun u hu => (hF7 u hu).set hMb
  have hM8 : MLe Mb (setM m7.M b (.cells (cs.setIfInBounds (off + k) (.int .u8 76)) e fr)) := fun x o hx => by
    have hxb : x ≠ b := fun e => by subst e; rw [hMbb] at hx; cases hx
    rw [setM_ne hxb]
    exact hM7 x o hx
  have s8 := RelS.setM (s7.prune [18, 17, 15, 7, 14]) (fun j => by
    simp only [Fw.prune, List.map_cons, List.map_nil, lk, ↓reduceIte, Nat.reduceEqDiff]
    repeat' split
    all_goals first | trivial | exact hh) hMb hn8 (z := 76)
  generalize a7.put (some 110) (.pointer (some ⟨b, off + k, none⟩)) = a8 at *
  obtain ⟨m8, hm8⟩ : ∃ m8 : Mem, m8 = ⟨setM m7.M b (.cells (cs.setIfInBounds (off + k) (.int .u8 76)) e fr), m7.η, m7.n⟩ := ⟨_, rfl⟩
  rw [← hm8] at hI8 s8
  have hF8' : ∀ u ∈ us, Scr c.w0.heap.size Mb m8.M u := by rw [hm8]; exact hF8
  have hM8' : MLe Mb m8.M := by rw [hm8]; exact hM8
  clear hF8 hM8 hm8 s7 hI7 hF7 r7 i7 k7 hM7
  have hkw : IntKind.i64.wrap ((k : Int) + 1) = (k : Int) + 1 := by unfold maxLen at slm; rw [wrap_i64 (by omega) (by omega)]
  show Code.wpIn _ _ _ _ _ _ _
  refine reg_step X_ok (GClOk.nil _) (S := ⟨_, _⟩) (c := ctxK w8 m8 [.by b0] 1) rfl (Ev hkw) (inv_ctxK hI8 (by simp)) s8 (fun i => i = 0 ∨ i = 15) (by rintro i (rfl | rfl) o ho <;> (revert o; decide)) (fun m9 w9 a9 i9 r9 k9 => ?_)
  have e1 : (k : Int) + 1 = ((k + 1 : Nat) : Int) := by omega
  have s9 : RelS m9 122 a9 [(18, .t (.int .i64 ((k : Nat) + 1 : Int))), (17, .t (.int .i64 ((i : Nat) : Int))), (15, .t (.sq 1 (us.map .op))), (7, .own 0), (14, .t (.bool true))] := r9.prune [18, 17, 15, 7, 14]
  rw [e1] at s9
  refine ⟨⟨k + 1, m9, hkl, inv_comp hI8 (by omega) i9, s9, (k9 0 (.inl rfl)).trans l0, (k9 15 (.inr rfl)).trans l15, hM8'.trans i9.le, fun u hu => (hF8' u hu).mono i9.le⟩, ?_⟩
  rw [cntS_val s9 (j := 18) rfl, hcnt4]
  simp only [Int.toNat_natCast]
  omega

end Go.Fw

end

section
/- Chapter 1: CompactTakes walked. -/
namespace Go.Fw
open Go Go.Proofs Go.RowKit
set_option linter.unusedVariables false
set_option linter.unusedSimpArgs false

noncomputable def F11 : Fun
  | [.by b] => @ite _ ((b.length ≤ 1000)) (Classical.propDecidable _) ((some ([.by b], .own 0))) none
  | _ => none

theorem ct11 : CT [] [0, 2, 3] [] := ⟨GClOk.nil _⟩

theorem c11 : ACon Try.prog 11 F11 := by
  refine aconc E_ok (rs := [.tmp 2 22]) Try.func11 rfl Try.ntmps11 (by kernel_rfl) rfl (by decide) F11 (np := 1) ?_ ?_
  · intro ts h; unfold F11; split <;> first | rfl | (simp at h; done)
  intro ts H r hF hwf
  unfold F11 at hF
  split at hF <;> try (cases hF; done)
  rename_i b
  split at hF
  case isFalse => cases hF
  rename_i hc
  have hb := hc
  cases hF
  repeat refine St trivial ct11 ?_
  exact AWP.ret (Fin trivial [] [1])

def F6 : Fun
  | [.by b, .int .i64 many, .int .i64 long] => some ([], .t (.bool true))
  | _ => none

theorem ct6 : CT [(10, ⟨[], treeG F10⟩), (11, ⟨[false], treeG F11⟩), (29, ⟨[true, false], ownSub G29L⟩), (30, ⟨[false, false], treeG F30⟩), (31, ⟨[true, false, false], ownSub G31L⟩), (32, ⟨[false, false, false], treeG F32⟩), (33, ⟨[false, false], treeG F33⟩)] [0, 1, 2, 6, 7, 8, 9, 10, 11, 12, 13, 14, 15, 16, 17, 18, 21, 93, 102] [] := ⟨(.cons c10.g (.cons c11.g (.cons g29L.ownSub (.cons c30.g (.cons g31L.ownSub (.cons c32.g (.cons c33.g (.nil _))))))))⟩

set_option maxRecDepth 8000 in
set_option maxHeartbeats 8000000 in
theorem c6 : ACon Try.prog 6 F6 := by
  refine aconcM E_ok (rs := [.tmp 6 4]) Try.func6 rfl Try.ntmps6 (by kernel_rfl) rfl (by decide) F6 (np := 3) ?_ ?_
  · intro ts h; unfold F6; split <;> first | rfl | (simp at h; done)
  intro ts H r hF hwf
  unfold F6 at hF
  split at hF <;> try (cases hF; done)
  rename_i b many long
  cases hF
  
  have hmany := inK_i64 (hwf (.int .i64 many) (by simp))
  have hlong := inK_i64 (hwf (.int .i64 long) (by simp))
  show AWM 0 _ _ _ _ _
  refine AWM.seq ?_
  refine St (And.intro @entry.eq_1 <| @entry.eq_2) ct6 ?_
  show AWM _ _ _ _ _ _
  refine AWM.seq ?_
  by_cases hb : 300 < (b.length : Int)
  · repeat refine St (And.intro hb <| @F10.eq_def) ct6 ?_
    refine AWP.ret (ret_early (fn := Try.f6) (y := .skip) E_ok (rs := [.tmp 6 4]) rfl ?_)
    exact Fin trivial [] []
  have hown : F11 [.by b] = some ([.by b], .own 0) := if_pos (by omega)
  have htb : ownSub G29L [.by b] [.own 0, .t (.int .i64 long)] = some ([.by b], .tup [.t (.by (lim b long).1), .t (.by (lim b long).2.1), .t (.int .i64 (lim b long).2.2)]) := if_pos ⟨rfl, rfl, by omega⟩
  have htl : ownSub G31L [.by b] [.own 0, .t (.int .i64 many), .t (.int .i64 long)] = some ([.by b], .tup ([.sq 1 ((lst b many long).1.map .by), .by (lst b many long).2.1, .int .i64 (lst b many long).2.2].map .t)) := if_pos ⟨rfl, rfl, by omega⟩
  repeat refine St hb ct6 ?_
  show AWM _ _ _ _ _ _
  refine AWM.seq ?_
  repeat refine St hown ct6 ?_
  show AWM _ _ _ _ _ _
  refine AWM.seq ?_
  repeat refine St htb ct6 ?_
  show AWM _ _ _ _ _ _
  refine AWM.seq ?_
  have hr1 : F30 [.by b, .int .i64 long] = some ([], .tup [.t (.by (lim b long).1), .t (.by (lim b long).2.1), .t (.int .i64 (lim b long).2.2)]) := if_pos (by omega)
  have hr2 : F32 [.by b, .int .i64 many, .int .i64 long] = some ([], .tup [.t (.sq 1 ((lst b many long).1.map .by)), .t (.by (lst b many long).2.1), .t (.int .i64 (lst b many long).2.2)]) := if_pos (by omega)
  have hsm : F33 [.sq 1 ((lst b many long).1.map .by), .sq 1 ((lst b many long).1.map .by)] = some ([], .t (.bool true)) := by
    simp only [F33, asBys_map, beq_self_eq_true]
  generalize lim b long = R1 at *
  generalize lst b many long = R2 at *
  repeat refine St hr1 ct6 ?_
  show AWM _ _ _ _ _ _
  refine AWM.seq ?_
  have q1 : (R1.1 == R1.1) = true := beq_self_eq_true _
  have q2 : (R1.2.1 == R1.2.1) = true := beq_self_eq_true _
  have q3 : (R1.2.2 == R1.2.2) = true := beq_self_eq_true _
  repeat refine St (And.intro q1 <| And.intro q2 <| q3) ct6 ?_
  show AWM _ _ _ _ _ _
  refine AWM.weak (S' := ⟨[(0, .t (.by b)), (1, .t (.int .i64 many)), (2, .t (.int .i64 long)), (7, .own 0), (14, .t (.bool true))], [.by b]⟩) (Wt trivial [0, 1, 2, 7, 14] [0]) ?_
  intro c hc m1 w1 a1 hi1 hs1
  -- region 7: l, left, e = compact.TakeList(mine, many, long)
  refine wpIn_seq ?_
  refine wpIn_region_lit ?_
  refine reg_pre X_ok ct6.cl (pre := [_, _, _]) (rest := [_, _, _, _, _, _, _, _]) (S := ⟨_, _⟩) (c := ctxK w1 m1 [.by b] 1) rfl (Ev trivial) (inv_ctxK hi1 (by simp)) hs1 (fun i => i = 0) (by intro i hi o ho; subst hi; revert o; decide) (fun m2 w2 a2 i2 r2 k2 => ?_)
  have hi2 : Inv c m2 w2 [.by b] := inv_comp hi1 (by rw [hc]; exact Nat.zero_le _) i2
  have v57 := (r2.2.2 57).own_inv.1
  have v58 := (r2.2.2 58).int_inv.1
  have v59 := (r2.2.2 59).int_inv.1
  refine wpListIn_plain rfl fun K hK => ⟨fun _ _ => trivial, ?_⟩
  have hrun : (execOp a2.eval { dst := some 60, op := Op.call { callee := Callee.value (Operand.func 31), args := #[Operand.tmp 57, Operand.tmp 58, Operand.tmp 59], argTypes := #[22, 3, 3] }, type := 45, pos := "law.go:95", after := #[{ on := 0, ground := Ground.data }, { on := 1, ground := Ground.data }, { on := 2, ground := Ground.data }], guard := none }).run Try.prog w2 = .ok (.enter 31 #[a2.tmps.getD 57 undef, a2.tmps.getD 58 undef, a2.tmps.getD 59 undef]) w2 := by
    have e2 := run_enter (P := Try.prog) Try.func31 (by kernel_rfl) (by kernel_rfl) #[a2.tmps.getD 57 undef, a2.tmps.getD 58 undef, a2.tmps.getD 59 undef] w2
    simp [execOp, resolve, Act.eval, Deferred.ofValue, invoke]
  rw [Oper.semAt_eq _ _ _ (by intro c h; cases h), hrun]
  refine ⟨fun hd => by simp [Fence.wide] at hd, callsIn_at ((GCon.fresh g31L.ownSub htl (k := 1) (j := 0) (vs := [a2.tmps.getD 57 undef, a2.tmps.getD 58 undef, a2.tmps.getD 59 undef]) hi2 (by simp) rfl rfl (fun i x hx => by
    match i, hx with
    | 0, hx => cases hx; exact ⟨_, rfl, by rw [v57]; exact .own (m := mem1 (m2.η 0)) (i := 0) (by show 0 < 1; omega)⟩
    | 1, hx => cases hx; exact ⟨_, rfl, by rw [v58]; exact .t (.int (r2.2.2 58).int_inv.2)⟩
    | 2, hx => cases hx; exact ⟨_, rfl, by rw [v59]; exact .t (.int (r2.2.2 59).int_inv.2)⟩)).mono fun e w3 he => ?_)⟩
  obtain ⟨N, us, rfl, hus, hN, hNd, i3, hNM⟩ := he
  have hi3 : Inv c (m2.with N) w3 [.by b] := inv_comp hi2 (by rw [hc]; exact Nat.zero_le _) i3
  show K (a2.put (some 60) (.tuple us)) w3
  refine hK _ _ ?_
  clear hK K hrun
  have hrow := hN 0 _ rfl
  obtain ⟨v0, hv0⟩ : ∃ v0, v0 = us.getD 0 undef := ⟨_, rfl⟩
  rw [← hv0] at hrow
  have hone := hrow.sq_one
  have htup : RelA (m2.with N) (.tup [.t (.op v0), .t (.by R2.2.1), .t (.int .i64 R2.2.2)]) (.tuple us) := .tup (by simpa using hus) fun i c hi => by
    match i, hi with
    | 0, hi => cases hi; rw [← hv0]; exact .t (.op hone)
    | 1, hi => cases hi; exact .t ((hN 1 _ rfl).mono hNM)
    | 2, hi => cases hi; exact .t ((hN 2 _ rfl).mono hNM)
  have s3 : RelS (m2.with N) 122 (a2.put (some 60) (.tuple us)) [(60, .tup [.t (.op v0), .t (.by R2.2.1), .t (.int .i64 R2.2.2)]), (0, .t (.by b)), (1, .t (.int .i64 many)), (2, .t (.int .i64 long)), (7, .own 0), (14, .t (.bool true))] :=
    RelS.puts (o := { dst := some 60, op := .move (.tmp 0), type := 0, pos := "", after := #[], guard := none }) (RelS.mono (r2.prune [0, 1, 2, 7, 14]) (Ext.with m2 N)) htup rfl
  have z3 : (a2.put (some 60) (.tuple us)).tmps.getD 0 undef = a1.tmps.getD 0 undef := (put_tmp _ _ _ 0 (by decide)).trans (k2 0 rfl)
  generalize a2.put (some 60) (.tuple us) = a3 at *
  refine reg_pre X_ok ct6.cl (pre := [_, _, _, _, _, _, _]) (rest := []) (S := ⟨_, _⟩) (c := ctxK w3 (m2.with N) [.by b] 1) rfl (Ev trivial) (inv_ctxK hi3 (by simp)) s3 (fun i => i = 0) (by intro i hi o ho; subst hi; revert o; decide) (fun m4 w4 a4 i4 r4 k4 => wpListIn_nil ?_)
  have z4 := (k4 0 rfl).trans z3
  have y4 : a4.tmps.getD 15 undef = v0 := (show RelA m4 (.t (.op v0)) _ from r4.2.2 15).t_inv.op_inv
  have hi4 : Inv c m4 w4 [.by b] := inv_comp hi3 (by rw [hc]; exact Nat.zero_le _) i4
  have hN4 : MLe N m4.M := hNM.trans i4.le
  have s4 : RelS m4 122 a4 [(15, .t (.sq 1 (R2.1.map .by))), (9, .t (.by R2.2.1)), (10, .t (.int .i64 R2.2.2)), (0, .t (.by b)), (1, .t (.int .i64 many)), (2, .t (.int .i64 long)), (7, .own 0), (14, .t (.bool true))] := by
    have h := r4.prune [9, 10, 0, 1, 2, 7, 14]
    simp only [Fw.prune, List.map_cons, List.map_nil, lk, ↓reduceIte, Nat.reduceEqDiff] at h
    refine ⟨h.1, h.2.1, fun j => ?_⟩
    by_cases e : j = 15
    · subst e
      rw [y4]
      exact .t (hrow.mono hN4)
    · have := h.2.2 j
      simp only [lk, if_neg e] at this ⊢
      exact this
  have hb2 : RelT m2.M (.by b) (a1.tmps.getD 0 undef) := by
    have := (show RelA m2 (.t (.by b)) (a2.tmps.getD 0 undef) from r2.2.2 0).t_inv
    rwa [k2 0 rfl] at this
  have hM4 : MLe m2.M m4.M := (m2.with_le N).trans i4.le
  have hn2 : c.w0.heap.size ≤ w2.heap.size := hi2.size
  have hcM : MLe c.M0 m2.M := hi2.le
  have hNb : ∀ x o, N x = some o → c.w0.heap.size ≤ x ∧ m2.M x = none ∧ plainO o := fun x o hx => by
    obtain ⟨g1, g2⟩ := hNd x o hx
    refine ⟨Nat.le_trans hn2 g1, ?_, g2⟩
    cases hy : m2.M x with
    | none => rfl
    | some y => have := lt_of_heap (hi2.imm x y hy); omega
  clear i4 r4 k4 i3 hi3 hNM s3 z3 htup hN hus hv0 us r2 k2 i2 v57 v58 v59 hi1 hs1
  -- region 8: m, rest, f
  show Code.wpIn _ _ _ _ _ _ _
  refine wpIn_seq ?_
  refine reg_step X_ok ct6.cl (S := ⟨_, _⟩) (c := ctxK w4 m4 [.by b] 1) rfl (Ev hr2) (inv_ctxK hi4 (by simp)) s4 (fun i => i = 0 ∨ i = 15) (by rintro i (rfl | rfl) o ho <;> (revert o; decide)) (fun m5 w5 a5 i5 r5 k5 => ?_)
  have hi5 := inv_comp hi4 (by rw [hc]; exact Nat.zero_le _) i5
  have z5 := (k5 0 (.inl rfl)).trans z4
  have y5 := (k5 15 (.inr rfl)).trans y4
  have hM5 := hM4.trans i5.le
  have hN5 := hN4.trans i5.le
  clear i5 k5 z4 y4 hM4 hN4 s4 hi4
  show Code.wpIn _ _ _ _ _ _ _
  refine wpIn_seq ?_
  have q4 : (R2.2.1 == R2.2.1) = true := beq_self_eq_true _
  have q5 : (R2.2.2 == R2.2.2) = true := beq_self_eq_true _
  refine reg_step X_ok ct6.cl (S := ⟨_, _⟩) (c := ctxK w5 m5 _ 1) rfl (Ev (And.intro hsm <| And.intro q4 <| q5)) (inv_ctxK hi5 (by simp)) r5 (fun i => i = 0 ∨ i = 15) (by rintro i (rfl | rfl) o ho <;> (revert o; decide)) (fun m6 w6 a6 i6 r6 k6 => ?_)
  have hi6 : Inv c m6 w6 [.by b] := inv_comp hi5 (by rw [hc]; exact Nat.zero_le _) i6
  have z6 := (k6 0 (.inl rfl)).trans z5
  have y6 := (k6 15 (.inr rfl)).trans y5
  have hM6 := hM5.trans i6.le
  have hN6 := hN5.trans i6.le
  obtain ⟨us, hul, hur, huv⟩ := bys_op hrow
  have s6 : RelS m6 122 a6 [(15, .t (.sq 1 (us.map .op))), (7, .own 0), (14, .t (.bool true))] := by
    have h := r6.prune [7, 14]
    simp only [Fw.prune, List.map_cons, List.map_nil, lk, ↓reduceIte, Nat.reduceEqDiff] at h
    refine ⟨h.1, h.2.1, fun j => ?_⟩
    by_cases e : j = 15
    · subst e
      rw [y6]
      exact .t (hur.mono hN6)
    · have := h.2.2 j
      simp only [lk, if_neg e] at this ⊢
      exact this
  have hsc : ∀ u ∈ us, Scr c.w0.heap.size m2.M m6.M u := fun u hu => by
    obtain ⟨j, hj⟩ := List.getElem?_of_mem hu
    have h1 := huv j u hj
    have h2 := h1.wf
    simp only [T.wf] at h2
    exact Scr.of h1 h2 hNb hN6
  clear i6 r6 k6 hi5 r5 z5 y5 hM5 hN5
  show Code.wpIn _ _ _ _ _ _ _
  refine wpIn_seq ?_
  refine spoil hc hcM hi6 s6 y6 z6 hM6 hsc fun m7 w7 a7 hi7 s7 z7 hM7 => ?_
  have s7' : RelS m7 122 a7 [(0, .t (.by b)), (7, .own 0), (14, .t (.bool true))] := by
    refine ⟨s7.1, s7.2.1, fun j => ?_⟩
    by_cases e : j = 0
    · subst e
      rw [z7]
      exact .t (hb2.mono hM7)
    · have := s7.2.2 j
      simp only [lk, if_neg e] at this ⊢
      exact this
  show Code.wpIn _ _ _ _ _ _ _
  refine AWM.app (K := fun c => bodyPostM Fence.wide 0 Try.prog Try.f6 (Rg c [] (.t (.bool true)))) (S := ⟨_, _⟩) ?_ hc hi7 s7'
  refine AWM.seq ?_
  have qb : (b == b) = true := beq_self_eq_true _
  repeat refine St (And.intro @F10.eq_def <| qb) ct6 ?_
  show AWM _ _ _ _ _ _
  refine AWM.retE (ret_early (fn := Try.f6) (y := .skip) E_ok (rs := [.tmp 6 4]) rfl ?_)
  exact Fin trivial [] []

end Go.Fw

end
