/- The abstract machine, and the contracts of the code: part 44. -/
import Derived.Test.YtdbngpmkecdnpaaFwT07

section
/- Chapter 7: turning, the numbers of the steps. -/
namespace Go.Fw
open Go Go.Proofs
set_option linter.unusedVariables false
set_option linter.unusedSimpArgs false

theorem u32_of {n : Int} (h : inK .u32 n) : n = ((UInt32.ofNat n.toNat).toNat : Int) := by
  obtain ⟨h1, h2⟩ := h
  have h2' : n ≤ 4294967295 := h2
  have h1' : 0 ≤ n := h1
  rw [UInt32.toNat_ofNat', Nat.mod_eq_of_lt (by omega)]; omega

theorem rot_s : ∀ r : Nat, r < 32 → 1 ≤ r → abits .and .u64 (IntKind.u64.wrap (-(r : Int))) 31 = ((32 - r : Nat) : Int) ∧ IntKind.u64.wrap (32 - ((32 - r : Nat) : Int)) = (r : Int) := by decide +kernel

def F34 : Fun
  | [.int .u32 n, .int .i64 k] => if -31 ≤ k ∧ k ≤ -1 then some ([], .t (u32T (tr (UInt32.ofNat n.toNat) (-k).toNat))) else none
  | _ => none

theorem cl34 : GClOk Try.prog [] := GClOk.nil _

theorem c34 : ACon Try.prog 34 F34 := by
  refine acon (E := E) (rs := [(4, 38)]) Try.func34 rfl Try.ntmps34 (by kernel_rfl) rfl (by decide) F34 (np := 2) ?_ ?_
  · intro ts h; unfold F34; split <;> first | rfl | (simp at h; done)
  intro ts H r hF hwf
  unfold F34 at hF
  split at hF <;> try (cases hF; done)
  rename_i n k
  split at hF
  case isFalse => cases hF
  rename_i hk
  have hn : inK .u32 n := by have := hwf _ (List.mem_cons_self); simpa only [T.wf] using this
  have hn' := u32_of hn
  generalize UInt32.ofNat n.toNat = x at *
  subst hn'
  obtain ⟨r, hr, hr1⟩ : ∃ r : Nat, k = -(r : Int) ∧ (-k).toNat = r := ⟨(-k).toNat, by omega, rfl⟩
  rw [hr1] at hF
  cases hF
  subst hr
  obtain ⟨h1, h2⟩ := rot_s r (by omega) (by omega)
  have h0 : ¬ ((32 - r : Nat) : Int) < 0 := by omega
  have h3 : ¬ (r : Int) < 0 := by omega
  have h4 := u32_shl x (32 - r) (by omega)
  have h5 := u32_shr x r (by omega)
  (repeat (first | refine AWP.seq ?_ | refine AWP.block ?_ | (refine AWP.greg X_ok cl34 [0, 1, 4, 5] (by ((repeat (first | simp only [W, eqq, ↓reduceIte, Nat.reduceEqDiff, Nat.reduceLT, Nat.reduceLeDiff, Nat.reduceAdd, Nat.reduceMul, Nat.reduceSub, Nat.reduceBEq, Int.reduceLE, Int.reduceLT, Int.reduceNeg, Int.reduceToNat, Int.reduceEq, Int.reduceBEq, Int.reduceBNe, Nat.reduceBNe, bne_self_eq_false, reduceCtorEq, gt_iff_lt, ge_iff_le, h1, h2, h0, h3, h4, h5, u32_or] | (rewrite [if_pos]; rotate_left; focus (first | omega | (simp only [LN, h1, h2, h0, h3, h4, h5, u32_or]; omega) | (refine ⟨?_, ?_⟩ <;> (simp only [LN, h1, h2, h0, h3, h4, h5, u32_or] <;> omega)))) | (rewrite [if_neg]; rotate_left; focus (first | omega | (simp only [LN, h1, h2, h0, h3, h4, h5, u32_or]; omega) | (refine ⟨?_, ?_⟩ <;> (simp only [LN, h1, h2, h0, h3, h4, h5, u32_or] <;> omega)))))); with_reducible rfl)) ?_; try show AWP _ _ _ _ _ _) | (refine AWP.condT ?_ ?_; focus (simp only [W, eqq, ↓reduceIte, Nat.reduceEqDiff, Nat.reduceLT, Nat.reduceLeDiff, Nat.reduceAdd, Nat.reduceMul, Nat.reduceSub, Nat.reduceBEq, Int.reduceLE, Int.reduceLT, Int.reduceNeg, Int.reduceToNat, Int.reduceEq, Int.reduceBEq, Int.reduceBNe, Nat.reduceBNe, bne_self_eq_false, reduceCtorEq, gt_iff_lt, ge_iff_le, h1, h2, h0, h3, h4, h5, u32_or]; done)) | (refine AWP.condF ?_ ?_; focus (simp only [W, eqq, ↓reduceIte, Nat.reduceEqDiff, Nat.reduceLT, Nat.reduceLeDiff, Nat.reduceAdd, Nat.reduceMul, Nat.reduceSub, Nat.reduceBEq, Int.reduceLE, Int.reduceLT, Int.reduceNeg, Int.reduceToNat, Int.reduceEq, Int.reduceBEq, Int.reduceBNe, Nat.reduceBNe, bne_self_eq_false, reduceCtorEq, gt_iff_lt, ge_iff_le, h1, h2, h0, h3, h4, h5, u32_or]; done)) | (refine AWP.skip ?_; try show AWP _ _ _ _ _ _) | (refine AWP.exit ?_; try show AWP _ _ _ _ _ _)))
  have e : tr x r = x <<< UInt32.ofNat (32 - r) ||| x >>> UInt32.ofNat r := UInt32.or_comm _ _
  refine AWP.ret ⟨.inr rfl, [], [], by decide, rfl, ?_⟩
  rw [e]; rfl

theorem u32_ofNat (x : UInt32) : UInt32.ofNat x.toNat = x := by simp
theorem rot_c (x : UInt32) (r : Nat) (h : r ≤ 31) (h1 : 1 ≤ r) : F34 [.int .u32 (x.toNat : Int), .int .i64 (-(r : Int))] = some ([], .t (.int .u32 ((tr x r).toNat : Int))) := by
  simp only [F34]
  rw [if_pos ⟨by omega, by omega⟩]
  simp [u32T]
theorem rotc2 (x : UInt32) : F34 [.int .u32 (x.toNat : Int), .int .i64 (-2)] = some ([], .t (.int .u32 ((tr x 2).toNat : Int))) := rot_c x 2 (by omega) (by omega)
theorem rotc6 (x : UInt32) : F34 [.int .u32 (x.toNat : Int), .int .i64 (-6)] = some ([], .t (.int .u32 ((tr x 6).toNat : Int))) := rot_c x 6 (by omega) (by omega)
theorem rotc7 (x : UInt32) : F34 [.int .u32 (x.toNat : Int), .int .i64 (-7)] = some ([], .t (.int .u32 ((tr x 7).toNat : Int))) := rot_c x 7 (by omega) (by omega)
theorem rotc11 (x : UInt32) : F34 [.int .u32 (x.toNat : Int), .int .i64 (-11)] = some ([], .t (.int .u32 ((tr x 11).toNat : Int))) := rot_c x 11 (by omega) (by omega)
theorem rotc13 (x : UInt32) : F34 [.int .u32 (x.toNat : Int), .int .i64 (-13)] = some ([], .t (.int .u32 ((tr x 13).toNat : Int))) := rot_c x 13 (by omega) (by omega)
theorem rotc17 (x : UInt32) : F34 [.int .u32 (x.toNat : Int), .int .i64 (-17)] = some ([], .t (.int .u32 ((tr x 17).toNat : Int))) := rot_c x 17 (by omega) (by omega)
theorem rotc18 (x : UInt32) : F34 [.int .u32 (x.toNat : Int), .int .i64 (-18)] = some ([], .t (.int .u32 ((tr x 18).toNat : Int))) := rot_c x 18 (by omega) (by omega)
theorem rotc19 (x : UInt32) : F34 [.int .u32 (x.toNat : Int), .int .i64 (-19)] = some ([], .t (.int .u32 ((tr x 19).toNat : Int))) := rot_c x 19 (by omega) (by omega)
theorem rotc22 (x : UInt32) : F34 [.int .u32 (x.toNat : Int), .int .i64 (-22)] = some ([], .t (.int .u32 ((tr x 22).toNat : Int))) := rot_c x 22 (by omega) (by omega)
theorem rotc25 (x : UInt32) : F34 [.int .u32 (x.toNat : Int), .int .i64 (-25)] = some ([], .t (.int .u32 ((tr x 25).toNat : Int))) := rot_c x 25 (by omega) (by omega)

theorem kT_eq : List.map u32T kS = [T.int .u32 1116352408, T.int .u32 1899447441, T.int .u32 3049323471, T.int .u32 3921009573, T.int .u32 961987163, T.int .u32 1508970993, T.int .u32 2453635748, T.int .u32 2870763221, T.int .u32 3624381080, T.int .u32 310598401, T.int .u32 607225278, T.int .u32 1426881987, T.int .u32 1925078388, T.int .u32 2162078206, T.int .u32 2614888103, T.int .u32 3248222580, T.int .u32 3835390401, T.int .u32 4022224774, T.int .u32 264347078, T.int .u32 604807628, T.int .u32 770255983, T.int .u32 1249150122, T.int .u32 1555081692, T.int .u32 1996064986, T.int .u32 2554220882, T.int .u32 2821834349, T.int .u32 2952996808, T.int .u32 3210313671, T.int .u32 3336571891, T.int .u32 3584528711, T.int .u32 113926993, T.int .u32 338241895, T.int .u32 666307205, T.int .u32 773529912, T.int .u32 1294757372, T.int .u32 1396182291, T.int .u32 1695183700, T.int .u32 1986661051, T.int .u32 2177026350, T.int .u32 2456956037, T.int .u32 2730485921, T.int .u32 2820302411, T.int .u32 3259730800, T.int .u32 3345764771, T.int .u32 3516065817, T.int .u32 3600352804, T.int .u32 4094571909, T.int .u32 275423344, T.int .u32 430227734, T.int .u32 506948616, T.int .u32 659060556, T.int .u32 883997877, T.int .u32 958139571, T.int .u32 1322822218, T.int .u32 1537002063, T.int .u32 1747873779, T.int .u32 1955562222, T.int .u32 2024104815, T.int .u32 2227730452, T.int .u32 2361852424, T.int .u32 2428436474, T.int .u32 2756734187, T.int .u32 3204031479, T.int .u32 3329325298] := rfl
theorem hT_eq : List.map u32T hS = [T.int .u32 1779033703, T.int .u32 3144134277, T.int .u32 1013904242, T.int .u32 2773480762, T.int .u32 1359893119, T.int .u32 2600822924, T.int .u32 528734635, T.int .u32 1541459225] := rfl

def F33 : Fun
  | [] => some ([], .t (.ar 64 1 (kS.map u32T)))
  | _ => none

theorem cl33 : GClOk Try.prog [] := GClOk.nil _

theorem c33 : ACon Try.prog 33 F33 := by
  refine aconc E_ok (rs := [.cell 0 54]) Try.func33 rfl Try.ntmps33 (by kernel_rfl) rfl (by decide) F33 (np := 0) ?_ ?_
  · intro ts h; unfold F33; split <;> first | rfl | (simp at h; done)
  intro ts H r hF hwf
  unfold F33 at hF
  split at hF <;> try (cases hF; done)
  cases hF
  (repeat (first | refine AWP.seq ?_ | refine AWP.block ?_ | (refine AWP.greg X_ok cl33 [0] (by ((repeat (first | simp only [W, eqq, ↓reduceIte, Nat.reduceEqDiff, Nat.reduceLT, Nat.reduceLeDiff, Nat.reduceAdd, Nat.reduceMul, Nat.reduceSub, Nat.reduceBEq, Int.reduceLE, Int.reduceLT, Int.reduceNeg, Int.reduceToNat, Int.reduceEq, Int.reduceBEq, Int.reduceBNe, Nat.reduceBNe, bne_self_eq_false, reduceCtorEq, gt_iff_lt, ge_iff_le, zar_len] | (rewrite [if_pos]; rotate_left; focus (first | omega | (simp only [LN, zar_len]; omega) | (refine ⟨?_, ?_⟩ <;> (simp only [LN, zar_len] <;> omega)))) | (rewrite [if_neg]; rotate_left; focus (first | omega | (simp only [LN, zar_len]; omega) | (refine ⟨?_, ?_⟩ <;> (simp only [LN, zar_len] <;> omega)))))); with_reducible rfl)) ?_; try show AWP _ _ _ _ _ _) | (refine AWP.condT ?_ ?_; focus (simp only [W, eqq, ↓reduceIte, Nat.reduceEqDiff, Nat.reduceLT, Nat.reduceLeDiff, Nat.reduceAdd, Nat.reduceMul, Nat.reduceSub, Nat.reduceBEq, Int.reduceLE, Int.reduceLT, Int.reduceNeg, Int.reduceToNat, Int.reduceEq, Int.reduceBEq, Int.reduceBNe, Nat.reduceBNe, bne_self_eq_false, reduceCtorEq, gt_iff_lt, ge_iff_le, zar_len]; done)) | (refine AWP.condF ?_ ?_; focus (simp only [W, eqq, ↓reduceIte, Nat.reduceEqDiff, Nat.reduceLT, Nat.reduceLeDiff, Nat.reduceAdd, Nat.reduceMul, Nat.reduceSub, Nat.reduceBEq, Int.reduceLE, Int.reduceLT, Int.reduceNeg, Int.reduceToNat, Int.reduceEq, Int.reduceBEq, Int.reduceBNe, Nat.reduceBNe, bne_self_eq_false, reduceCtorEq, gt_iff_lt, ge_iff_le, zar_len]; done)) | (refine AWP.skip ?_; try show AWP _ _ _ _ _ _) | (refine AWP.exit ?_; try show AWP _ _ _ _ _ _)))
  refine AWP.ret ?_; show cretQ _ _ _ _ _ _ _; exact ⟨.inr rfl, [], [], (by decide), by simp only [cres, resVals, RS.val, thawV, freezeOnes, freezeOne, renH, one, AV.ren, AV.renL, Blk.ren, W, eqq, ↓reduceIte, Nat.reduceEqDiff, Nat.reduceLT, Nat.reduceLeDiff, Nat.reduceAdd, Nat.reduceMul, Nat.reduceSub, Nat.reduceBEq, Int.reduceLE, Int.reduceLT, Int.reduceNeg, Int.reduceToNat, Int.reduceEq, Int.reduceBEq, Int.reduceBNe, Nat.reduceBNe, bne_self_eq_false, reduceCtorEq, gt_iff_lt, ge_iff_le, kT_eq]⟩

def F27 : Fun
  | [] => some ([], .t (.ar 8 1 (hS.map u32T)))
  | _ => none

theorem cl27 : GClOk Try.prog [] := GClOk.nil _

theorem c27 : ACon Try.prog 27 F27 := by
  refine aconc E_ok (rs := [.cell 0 45]) Try.func27 rfl Try.ntmps27 (by kernel_rfl) rfl (by decide) F27 (np := 0) ?_ ?_
  · intro ts h; unfold F27; split <;> first | rfl | (simp at h; done)
  intro ts H r hF hwf
  unfold F27 at hF
  split at hF <;> try (cases hF; done)
  cases hF
  (repeat (first | refine AWP.seq ?_ | refine AWP.block ?_ | (refine AWP.greg X_ok cl27 [0] (by ((repeat (first | simp only [W, eqq, ↓reduceIte, Nat.reduceEqDiff, Nat.reduceLT, Nat.reduceLeDiff, Nat.reduceAdd, Nat.reduceMul, Nat.reduceSub, Nat.reduceBEq, Int.reduceLE, Int.reduceLT, Int.reduceNeg, Int.reduceToNat, Int.reduceEq, Int.reduceBEq, Int.reduceBNe, Nat.reduceBNe, bne_self_eq_false, reduceCtorEq, gt_iff_lt, ge_iff_le] | (rewrite [if_pos]; rotate_left; focus (first | omega | (simp only [LN]; omega) | (refine ⟨?_, ?_⟩ <;> (simp only [LN] <;> omega)))) | (rewrite [if_neg]; rotate_left; focus (first | omega | (simp only [LN]; omega) | (refine ⟨?_, ?_⟩ <;> (simp only [LN] <;> omega)))))); with_reducible rfl)) ?_; try show AWP _ _ _ _ _ _) | (refine AWP.condT ?_ ?_; focus (simp only [W, eqq, ↓reduceIte, Nat.reduceEqDiff, Nat.reduceLT, Nat.reduceLeDiff, Nat.reduceAdd, Nat.reduceMul, Nat.reduceSub, Nat.reduceBEq, Int.reduceLE, Int.reduceLT, Int.reduceNeg, Int.reduceToNat, Int.reduceEq, Int.reduceBEq, Int.reduceBNe, Nat.reduceBNe, bne_self_eq_false, reduceCtorEq, gt_iff_lt, ge_iff_le]; done)) | (refine AWP.condF ?_ ?_; focus (simp only [W, eqq, ↓reduceIte, Nat.reduceEqDiff, Nat.reduceLT, Nat.reduceLeDiff, Nat.reduceAdd, Nat.reduceMul, Nat.reduceSub, Nat.reduceBEq, Int.reduceLE, Int.reduceLT, Int.reduceNeg, Int.reduceToNat, Int.reduceEq, Int.reduceBEq, Int.reduceBNe, Nat.reduceBNe, bne_self_eq_false, reduceCtorEq, gt_iff_lt, ge_iff_le]; done)) | (refine AWP.skip ?_; try show AWP _ _ _ _ _ _) | (refine AWP.exit ?_; try show AWP _ _ _ _ _ _)))
  refine AWP.ret ?_; show cretQ _ _ _ _ _ _ _; exact ⟨.inr rfl, [], [], (by decide), by simp only [cres, resVals, RS.val, thawV, freezeOnes, freezeOne, renH, one, AV.ren, AV.renL, Blk.ren, W, eqq, ↓reduceIte, Nat.reduceEqDiff, Nat.reduceLT, Nat.reduceLeDiff, Nat.reduceAdd, Nat.reduceMul, Nat.reduceSub, Nat.reduceBEq, Int.reduceLE, Int.reduceLT, Int.reduceNeg, Int.reduceToNat, Int.reduceEq, Int.reduceBEq, Int.reduceBNe, Nat.reduceBNe, bne_self_eq_false, reduceCtorEq, gt_iff_lt, ge_iff_le, hT_eq]⟩

end Go.Fw

end

section
/- Chapter 7: a block's numbers. -/
namespace Go.Fw
open Go Go.Proofs
set_option linter.unusedVariables false
set_option linter.unusedSimpArgs false

def F32 : Fun
  | [.by b] => if b.length = 64 then some ([], .t (.ar 64 1 ((sch b 64).map u32T))) else none
  | _ => none

theorem cl32 : GClOk Try.prog [(34, ⟨[false, false], treeG F34⟩)] := .cons c34.g (.nil _)

/-- The array so far: so many numbers, then noughts. -/
def arS (l : List UInt32) (n : Nat) : List T := (l ++ List.replicate (n - l.length) 0).map u32T
theorem arS_len {l : List UInt32} {n : Nat} (h : l.length ≤ n) : (arS l n).length = n := by simp [arS]; omega
theorem arS_get {l : List UInt32} {n i : Nat} (h : i < l.length) : (arS l n).getD i default = .int .u32 ((l.getD i 0).toNat : Int) := by
  simp [arS, List.getD_eq_getElem?_getD, List.getElem?_append_left, h, u32T]
theorem rep_pad {l : List UInt32} {n : Nat} (h : l.length < n) : l ++ List.replicate (n - l.length) 0 = l ++ 0 :: List.replicate (n - (l.length + 1)) 0 := by
  have e : n - l.length = (n - (l.length + 1)) + 1 := by omega
  rw [e, List.replicate_succ]
theorem arS_set {l : List UInt32} {n : Nat} {x y : UInt32} (h : l.length < n) : (arS (l ++ [y]) n).set l.length (.int .u32 (x.toNat : Int)) = arS (l ++ [x]) n := by
  have e : T.int .u32 (x.toNat : Int) = u32T x := rfl
  rw [e]
  simp only [arS, ← List.map_set]
  simp
theorem arS_zero {l : List UInt32} {n : Nat} (h : l.length < n) : arS l n = arS (l ++ [0]) n := by
  unfold arS
  rw [rep_pad h]
  simp
theorem arS_nil (n : Nat) : arS [] n = zar n (.int .u32 0) := by simp [arS, zar, u32T]
theorem arS_full {l : List UInt32} {n : Nat} (h : l.length = n) : arS l n = l.map u32T := by simp [arS, h]

theorem arS_size (l : List UInt32) (n i : Nat) (h : i < (arS l n).length) : ((arS l n).getD i default).size = 1 := by
  unfold arS at *
  rw [List.length_map] at h
  rw [u32T_getD h]; rfl

theorem sl8 (x : UInt32) : IntKind.u32.wrap ((x.toNat : Int) * 2 ^ (min 8 IntKind.u32.bits)) = ((x <<< 8).toNat : Int) := u32_shl x 8 (by omega)
theorem sr3 (x : UInt32) : Int.fdiv (x.toNat : Int) (2 ^ (min 3 IntKind.u32.bits)) = ((x >>> 3).toNat : Int) := u32_shr x 3 (by omega)
theorem sr10 (x : UInt32) : Int.fdiv (x.toNat : Int) (2 ^ (min 10 IntKind.u32.bits)) = ((x >>> 10).toNat : Int) := u32_shr x 10 (by omega)

def wacc (b : List UInt8) (t : Nat) : Nat → UInt32
  | 0 => 0
  | j + 1 => wacc b t j <<< 8 ||| (b.getD (4 * t + j) 0).toUInt32
theorem wacc4 (b : List UInt8) (t : Nat) : wacc b t 4 = word b t := by
  simp only [wacc, word, Nat.add_zero]
  congr 6
  simp

theorem fsg0 (x : UInt32) : tr x 7 ^^^ tr x 18 ^^^ x >>> 3 = sg0 x := rfl
theorem fsg1 (x : UInt32) : tr x 17 ^^^ tr x 19 ^^^ x >>> 10 = sg1 x := rfl

set_option maxHeartbeats 1000000 in
theorem c32 : ACon Try.prog 32 F32 := by
  refine aconc E_ok (rs := [.cell 2 54]) Try.func32 rfl Try.ntmps32 (by kernel_rfl) rfl (by decide) F32 (np := 1) ?_ ?_
  · intro ts h; unfold F32; split <;> first | rfl | (simp at h; done)
  intro ts H r hF hwf
  unfold F32 at hF
  split at hF <;> try (cases hF; done)
  rename_i b
  split at hF
  case isFalse => cases hF
  rename_i hb
  cases hF
  (repeat (first | refine AWP.seq ?_ | refine AWP.block ?_ | (refine AWP.greg X_ok cl32 [0, 2, 3, 4, 6, 7, 8, 9, 10, 11, 12, 13, 21, 22, 23, 24, 39] (by ((repeat (first | simp only [W, eqq, ↓reduceIte, Nat.reduceEqDiff, Nat.reduceLT, Nat.reduceLeDiff, Nat.reduceAdd, Nat.reduceMul, Nat.reduceSub, Nat.reduceBEq, Int.reduceLE, Int.reduceLT, Int.reduceNeg, Int.reduceToNat, Int.reduceEq, Int.reduceBEq, Int.reduceBNe, Nat.reduceBNe, bne_self_eq_false, reduceCtorEq, gt_iff_lt, ge_iff_le] | (rewrite [if_pos]; rotate_left; focus (first | omega | (simp only [LN]; omega) | (refine ⟨?_, ?_⟩ <;> (simp only [LN] <;> omega)))) | (rewrite [if_neg]; rotate_left; focus (first | omega | (simp only [LN]; omega) | (refine ⟨?_, ?_⟩ <;> (simp only [LN] <;> omega)))))); with_reducible rfl)) ?_; try show AWP _ _ _ _ _ _) | (refine AWP.condT ?_ ?_; focus (simp only [W, eqq, ↓reduceIte, Nat.reduceEqDiff, Nat.reduceLT, Nat.reduceLeDiff, Nat.reduceAdd, Nat.reduceMul, Nat.reduceSub, Nat.reduceBEq, Int.reduceLE, Int.reduceLT, Int.reduceNeg, Int.reduceToNat, Int.reduceEq, Int.reduceBEq, Int.reduceBNe, Nat.reduceBNe, bne_self_eq_false, reduceCtorEq, gt_iff_lt, ge_iff_le]; done)) | (refine AWP.condF ?_ ?_; focus (simp only [W, eqq, ↓reduceIte, Nat.reduceEqDiff, Nat.reduceLT, Nat.reduceLeDiff, Nat.reduceAdd, Nat.reduceMul, Nat.reduceSub, Nat.reduceBEq, Int.reduceLE, Int.reduceLT, Int.reduceNeg, Int.reduceToNat, Int.reduceEq, Int.reduceBEq, Int.reduceBNe, Nat.reduceBNe, bne_self_eq_false, reduceCtorEq, gt_iff_lt, ge_iff_le]; done)) | (refine AWP.skip ?_; try show AWP _ _ _ _ _ _) | (refine AWP.exit ?_; try show AWP _ _ _ _ _ _)))
  refine AWP.loop (G := { t : Nat // t ≤ 16 }) (fun t => ⟨[(0, .t (.by b)), (2, .ptr 0 0 []), (3, .ptr 1 0 []), (12, .t (.int .i64 (t.1 : Int)))], [.bx (.t (.ar 64 1 (zar 64 (.int .u32 0)))), .bx (.t (.ar 64 1 (arS (sch b t.1) 64)))]⟩) (fun t => 16 - t.1) ⟨0, by omega⟩ (Weak.to [0, 2, 3, 12] [0, 1] (show okIds 0 [0, 1] by decide) (by simp only [W, eqq, ↓reduceIte, Nat.reduceEqDiff, Nat.reduceLT, Nat.reduceLeDiff, Nat.reduceAdd, Nat.reduceMul, Nat.reduceSub, Nat.reduceBEq, Int.reduceLE, Int.reduceLT, Int.reduceNeg, Int.reduceToNat, Int.reduceEq, Int.reduceBEq, Int.reduceBNe, Nat.reduceBNe, bne_self_eq_false, reduceCtorEq, gt_iff_lt, ge_iff_le, sch, arS_nil])) ?_
  · intro ⟨t, ht⟩
    dsimp only
    have hsl := sch_len b t
    by_cases hlt : (t : Int) < 16
    case neg =>
      obtain rfl : t = 16 := by omega
      (repeat (first | refine AWP.seq ?_ | refine AWP.block ?_ | (refine AWP.greg X_ok cl32 [0, 2, 3, 4, 6, 7, 8, 9, 10, 11, 12, 13, 21, 22, 23, 24, 39] (by ((repeat (first | simp only [W, eqq, ↓reduceIte, Nat.reduceEqDiff, Nat.reduceLT, Nat.reduceLeDiff, Nat.reduceAdd, Nat.reduceMul, Nat.reduceSub, Nat.reduceBEq, Int.reduceLE, Int.reduceLT, Int.reduceNeg, Int.reduceToNat, Int.reduceEq, Int.reduceBEq, Int.reduceBNe, Nat.reduceBNe, bne_self_eq_false, reduceCtorEq, gt_iff_lt, ge_iff_le, hlt] | (rewrite [if_pos]; rotate_left; focus (first | omega | (simp only [LN, hlt]; omega) | (refine ⟨?_, ?_⟩ <;> (simp only [LN, hlt] <;> omega)))) | (rewrite [if_neg]; rotate_left; focus (first | omega | (simp only [LN, hlt]; omega) | (refine ⟨?_, ?_⟩ <;> (simp only [LN, hlt] <;> omega)))))); with_reducible rfl)) ?_; try show AWP _ _ _ _ _ _) | (refine AWP.condT ?_ ?_; focus (simp only [W, eqq, ↓reduceIte, Nat.reduceEqDiff, Nat.reduceLT, Nat.reduceLeDiff, Nat.reduceAdd, Nat.reduceMul, Nat.reduceSub, Nat.reduceBEq, Int.reduceLE, Int.reduceLT, Int.reduceNeg, Int.reduceToNat, Int.reduceEq, Int.reduceBEq, Int.reduceBNe, Nat.reduceBNe, bne_self_eq_false, reduceCtorEq, gt_iff_lt, ge_iff_le, hlt]; done)) | (refine AWP.condF ?_ ?_; focus (simp only [W, eqq, ↓reduceIte, Nat.reduceEqDiff, Nat.reduceLT, Nat.reduceLeDiff, Nat.reduceAdd, Nat.reduceMul, Nat.reduceSub, Nat.reduceBEq, Int.reduceLE, Int.reduceLT, Int.reduceNeg, Int.reduceToNat, Int.reduceEq, Int.reduceBEq, Int.reduceBNe, Nat.reduceBNe, bne_self_eq_false, reduceCtorEq, gt_iff_lt, ge_iff_le, hlt]; done)) | (refine AWP.skip ?_; try show AWP _ _ _ _ _ _) | (refine AWP.exit ?_; try show AWP _ _ _ _ _ _)))
      refine AWP.loop (G := { t : Nat // 16 ≤ t ∧ t ≤ 64 }) (fun t => ⟨[(0, .t (.by b)), (2, .ptr 0 0 []), (3, .ptr 1 0 []), (7, .t (.int .i64 (t.1 : Int)))], [.bx (.t (.ar 64 1 (zar 64 (.int .u32 0)))), .bx (.t (.ar 64 1 (arS (sch b t.1) 64)))]⟩) (fun t => 64 - t.1) ⟨16, by omega⟩ (Weak.to [0, 2, 3, 7] [0, 1] (show okIds 0 [0, 1] by decide) (by simp only [W, eqq, ↓reduceIte, Nat.reduceEqDiff, Nat.reduceLT, Nat.reduceLeDiff, Nat.reduceAdd, Nat.reduceMul, Nat.reduceSub, Nat.reduceBEq, Int.reduceLE, Int.reduceLT, Int.reduceNeg, Int.reduceToNat, Int.reduceEq, Int.reduceBEq, Int.reduceBNe, Nat.reduceBNe, bne_self_eq_false, reduceCtorEq, gt_iff_lt, ge_iff_le])) ?_
      intro ⟨t, ht1, ht2⟩
      dsimp only
      have hsl := sch_len b t
      by_cases hlt2 : (t : Int) < 64
      case neg =>
        obtain rfl : t = 64 := by omega
        have hf := arS_full hsl
        have harl : (List.map u32T (sch b 64)).length = 64 := by simp [hsl]
        (repeat (first | refine AWP.seq ?_ | refine AWP.block ?_ | (refine AWP.greg X_ok cl32 [0, 2, 3, 4, 6, 7, 8, 9, 10, 11, 12, 13, 21, 22, 23, 24, 39] (by ((repeat (first | simp only [W, eqq, ↓reduceIte, Nat.reduceEqDiff, Nat.reduceLT, Nat.reduceLeDiff, Nat.reduceAdd, Nat.reduceMul, Nat.reduceSub, Nat.reduceBEq, Int.reduceLE, Int.reduceLT, Int.reduceNeg, Int.reduceToNat, Int.reduceEq, Int.reduceBEq, Int.reduceBNe, Nat.reduceBNe, bne_self_eq_false, reduceCtorEq, gt_iff_lt, ge_iff_le, hlt2, hf, harl, T.size, zar_len] | (rewrite [if_pos]; rotate_left; focus (first | omega | (simp only [LN, hlt2, hf, harl, T.size, zar_len]; omega) | (refine ⟨?_, ?_⟩ <;> (simp only [LN, hlt2, hf, harl, T.size, zar_len] <;> omega)))) | (rewrite [if_neg]; rotate_left; focus (first | omega | (simp only [LN, hlt2, hf, harl, T.size, zar_len]; omega) | (refine ⟨?_, ?_⟩ <;> (simp only [LN, hlt2, hf, harl, T.size, zar_len] <;> omega)))))); with_reducible rfl)) ?_; try show AWP _ _ _ _ _ _) | (refine AWP.condT ?_ ?_; focus (simp only [W, eqq, ↓reduceIte, Nat.reduceEqDiff, Nat.reduceLT, Nat.reduceLeDiff, Nat.reduceAdd, Nat.reduceMul, Nat.reduceSub, Nat.reduceBEq, Int.reduceLE, Int.reduceLT, Int.reduceNeg, Int.reduceToNat, Int.reduceEq, Int.reduceBEq, Int.reduceBNe, Nat.reduceBNe, bne_self_eq_false, reduceCtorEq, gt_iff_lt, ge_iff_le, hlt2, hf, harl, T.size, zar_len]; done)) | (refine AWP.condF ?_ ?_; focus (simp only [W, eqq, ↓reduceIte, Nat.reduceEqDiff, Nat.reduceLT, Nat.reduceLeDiff, Nat.reduceAdd, Nat.reduceMul, Nat.reduceSub, Nat.reduceBEq, Int.reduceLE, Int.reduceLT, Int.reduceNeg, Int.reduceToNat, Int.reduceEq, Int.reduceBEq, Int.reduceBNe, Nat.reduceBNe, bne_self_eq_false, reduceCtorEq, gt_iff_lt, ge_iff_le, hlt2, hf, harl, T.size, zar_len]; done)) | (refine AWP.skip ?_; try show AWP _ _ _ _ _ _) | (refine AWP.exit ?_; try show AWP _ _ _ _ _ _)))
        refine AWP.ret ?_; show cretQ _ _ _ _ _ _ _; exact ⟨.inr rfl, [], [], (by decide), by simp only [cres, resVals, RS.val, thawV, freezeOnes, freezeOne, renH, one, AV.ren, AV.renL, Blk.ren, W, eqq, ↓reduceIte, Nat.reduceEqDiff, Nat.reduceLT, Nat.reduceLeDiff, Nat.reduceAdd, Nat.reduceMul, Nat.reduceSub, Nat.reduceBEq, Int.reduceLE, Int.reduceLT, Int.reduceNeg, Int.reduceToNat, Int.reduceEq, Int.reduceBEq, Int.reduceBNe, Nat.reduceBNe, bne_self_eq_false, reduceCtorEq, gt_iff_lt, ge_iff_le]⟩
      have ht64 : t < 64 := by omega
      have hm15 : IntKind.i64.wrap ((t : Int) - 15) = ((t - 15 : Nat) : Int) := by rw [wrap_i64 (by omega) (by omega)]; omega
      have hm2 : IntKind.i64.wrap ((t : Int) - 2) = ((t - 2 : Nat) : Int) := by rw [wrap_i64 (by omega) (by omega)]; omega
      have hm16 : IntKind.i64.wrap ((t : Int) - 16) = ((t - 16 : Nat) : Int) := by rw [wrap_i64 (by omega) (by omega)]; omega
      have hm7 : IntKind.i64.wrap ((t : Int) - 7) = ((t - 7 : Nat) : Int) := by rw [wrap_i64 (by omega) (by omega)]; omega
      have hk1 : IntKind.i64.wrap ((t : Int) + 1) = ((t + 1 : Nat) : Int) := by rw [wrap_i64 (by omega) (by omega)]; omega
      have harl : (arS (sch b t) 64).length = 64 := arS_len (by omega)
      have g15 := arS_get (n := 64) (l := sch b t) (i := t - 15) (by omega)
      have g2 := arS_get (n := 64) (l := sch b t) (i := t - 2) (by omega)
      have g16 := arS_get (n := 64) (l := sch b t) (i := t - 16) (by omega)
      have g7 := arS_get (n := 64) (l := sch b t) (i := t - 7) (by omega)
      have l15 : t - 15 < 64 := by omega
      have l2 : t - 2 < 64 := by omega
      have l16 : t - 16 < 64 := by omega
      have l7 : t - 7 < 64 := by omega
      have i15 : ((t - 15 : Nat) : Int) < 64 := by omega
      have i2 : ((t - 2 : Nat) : Int) < 64 := by omega
      have i16 : ((t - 16 : Nat) : Int) < 64 := by omega
      have i7 : ((t - 7 : Nat) : Int) < 64 := by omega
      have hars : ∀ y : UInt32, (arS (sch b t) 64).set t (.int .u32 (y.toNat : Int)) = arS (sch b t ++ [y]) 64 := fun y => by
        have := arS_set (l := sch b t) (n := 64) (x := y) (y := 0) (by omega)
        rw [← arS_zero (by omega), hsl] at this
        exact this
      have gsz := arS_size (sch b t) 64 t (by omega)
      have hnx : sch b t ++ [(sch b t).getD (t - 16) 0 + sg0 ((sch b t).getD (t - 15) 0) + (sch b t).getD (t - 7) 0 + sg1 ((sch b t).getD (t - 2) 0)] = sch b (t + 1) := by simp only [sch, next]; rw [if_neg (by omega)]
      (repeat (first | refine AWP.seq ?_ | refine AWP.block ?_ | (refine AWP.greg X_ok cl32 [0, 2, 3, 4, 6, 7, 8, 9, 10, 11, 12, 13, 21, 22, 23, 24, 39] (by ((repeat (first | simp only [W, eqq, ↓reduceIte, Nat.reduceEqDiff, Nat.reduceLT, Nat.reduceLeDiff, Nat.reduceAdd, Nat.reduceMul, Nat.reduceSub, Nat.reduceBEq, Int.reduceLE, Int.reduceLT, Int.reduceNeg, Int.reduceToNat, Int.reduceEq, Int.reduceBEq, Int.reduceBNe, Nat.reduceBNe, bne_self_eq_false, reduceCtorEq, gt_iff_lt, ge_iff_le, hlt2, hm15, hm2, hm16, hm7, harl, g15, g2, g16, g7, l15, l2, l16, l7, i15, i2, i16, i7, ht64, rotc7, rotc18, rotc17, rotc19, u32_xor, u32_add, sr3, sr10, fsg0, fsg1, hars, hk1, gsz] | (rewrite [if_pos]; rotate_left; focus (first | omega | (simp only [LN, hlt2, hm15, hm2, hm16, hm7, harl, g15, g2, g16, g7, l15, l2, l16, l7, i15, i2, i16, i7, ht64, rotc7, rotc18, rotc17, rotc19, u32_xor, u32_add, sr3, sr10, fsg0, fsg1, hars, hk1, gsz]; omega) | (refine ⟨?_, ?_⟩ <;> (simp only [LN, hlt2, hm15, hm2, hm16, hm7, harl, g15, g2, g16, g7, l15, l2, l16, l7, i15, i2, i16, i7, ht64, rotc7, rotc18, rotc17, rotc19, u32_xor, u32_add, sr3, sr10, fsg0, fsg1, hars, hk1, gsz] <;> omega)))) | (rewrite [if_neg]; rotate_left; focus (first | omega | (simp only [LN, hlt2, hm15, hm2, hm16, hm7, harl, g15, g2, g16, g7, l15, l2, l16, l7, i15, i2, i16, i7, ht64, rotc7, rotc18, rotc17, rotc19, u32_xor, u32_add, sr3, sr10, fsg0, fsg1, hars, hk1, gsz]; omega) | (refine ⟨?_, ?_⟩ <;> (simp only [LN, hlt2, hm15, hm2, hm16, hm7, harl, g15, g2, g16, g7, l15, l2, l16, l7, i15, i2, i16, i7, ht64, rotc7, rotc18, rotc17, rotc19, u32_xor, u32_add, sr3, sr10, fsg0, fsg1, hars, hk1, gsz] <;> omega)))))); with_reducible rfl)) ?_; try show AWP _ _ _ _ _ _) | (refine AWP.condT ?_ ?_; focus (simp only [W, eqq, ↓reduceIte, Nat.reduceEqDiff, Nat.reduceLT, Nat.reduceLeDiff, Nat.reduceAdd, Nat.reduceMul, Nat.reduceSub, Nat.reduceBEq, Int.reduceLE, Int.reduceLT, Int.reduceNeg, Int.reduceToNat, Int.reduceEq, Int.reduceBEq, Int.reduceBNe, Nat.reduceBNe, bne_self_eq_false, reduceCtorEq, gt_iff_lt, ge_iff_le, hlt2, hm15, hm2, hm16, hm7, harl, g15, g2, g16, g7, l15, l2, l16, l7, i15, i2, i16, i7, ht64, rotc7, rotc18, rotc17, rotc19, u32_xor, u32_add, sr3, sr10, fsg0, fsg1, hars, hk1, gsz]; done)) | (refine AWP.condF ?_ ?_; focus (simp only [W, eqq, ↓reduceIte, Nat.reduceEqDiff, Nat.reduceLT, Nat.reduceLeDiff, Nat.reduceAdd, Nat.reduceMul, Nat.reduceSub, Nat.reduceBEq, Int.reduceLE, Int.reduceLT, Int.reduceNeg, Int.reduceToNat, Int.reduceEq, Int.reduceBEq, Int.reduceBNe, Nat.reduceBNe, bne_self_eq_false, reduceCtorEq, gt_iff_lt, ge_iff_le, hlt2, hm15, hm2, hm16, hm7, harl, g15, g2, g16, g7, l15, l2, l16, l7, i15, i2, i16, i7, ht64, rotc7, rotc18, rotc17, rotc19, u32_xor, u32_add, sr3, sr10, fsg0, fsg1, hars, hk1, gsz]; done)) | (refine AWP.skip ?_; try show AWP _ _ _ _ _ _) | (refine AWP.exit ?_; try show AWP _ _ _ _ _ _) | (refine AWP.gdraw X_ok cl32 [0, 2, 3, 4, 6, 7, 8, 9, 10, 11, 12, 13, 21, 22, 23, 24, 39] mix [⟨0, [7], []⟩, ⟨0, [42], []⟩, ⟨1, [3, 43], []⟩, ⟨1, [44], [2]⟩, ⟨0, [7], []⟩, ⟨0, [46], []⟩, ⟨1, [3, 47], []⟩, ⟨1, [48], [6]⟩, ⟨0, [45], [2, 3]⟩, ⟨0, [49], [2, 3, 6, 7]⟩] (by kernel_rfl) (by ((repeat (first | simp only [W, eqq, ↓reduceIte, Nat.reduceEqDiff, Nat.reduceLT, Nat.reduceLeDiff, Nat.reduceAdd, Nat.reduceMul, Nat.reduceSub, Nat.reduceBEq, Int.reduceLE, Int.reduceLT, Int.reduceNeg, Int.reduceToNat, Int.reduceEq, Int.reduceBEq, Int.reduceBNe, Nat.reduceBNe, bne_self_eq_false, reduceCtorEq, gt_iff_lt, ge_iff_le, hlt2, hm15, hm2, hm16, hm7, harl, g15, g2, g16, g7, l15, l2, l16, l7, i15, i2, i16, i7, ht64, rotc7, rotc18, rotc17, rotc19, u32_xor, u32_add, sr3, sr10, fsg0, fsg1, hars, hk1, gsz] | (rewrite [if_pos]; rotate_left; focus (first | omega | (simp only [LN, hlt2, hm15, hm2, hm16, hm7, harl, g15, g2, g16, g7, l15, l2, l16, l7, i15, i2, i16, i7, ht64, rotc7, rotc18, rotc17, rotc19, u32_xor, u32_add, sr3, sr10, fsg0, fsg1, hars, hk1, gsz]; omega) | (refine ⟨?_, ?_⟩ <;> (simp only [LN, hlt2, hm15, hm2, hm16, hm7, harl, g15, g2, g16, g7, l15, l2, l16, l7, i15, i2, i16, i7, ht64, rotc7, rotc18, rotc17, rotc19, u32_xor, u32_add, sr3, sr10, fsg0, fsg1, hars, hk1, gsz] <;> omega)))) | (rewrite [if_neg]; rotate_left; focus (first | omega | (simp only [LN, hlt2, hm15, hm2, hm16, hm7, harl, g15, g2, g16, g7, l15, l2, l16, l7, i15, i2, i16, i7, ht64, rotc7, rotc18, rotc17, rotc19, u32_xor, u32_add, sr3, sr10, fsg0, fsg1, hars, hk1, gsz]; omega) | (refine ⟨?_, ?_⟩ <;> (simp only [LN, hlt2, hm15, hm2, hm16, hm7, harl, g15, g2, g16, g7, l15, l2, l16, l7, i15, i2, i16, i7, ht64, rotc7, rotc18, rotc17, rotc19, u32_xor, u32_add, sr3, sr10, fsg0, fsg1, hars, hk1, gsz] <;> omega)))))); with_reducible rfl)) ?_; try show AWP _ _ _ _ _ _) | (refine AWP.gdraw X_ok cl32 [0, 2, 3, 4, 6, 7, 8, 9, 10, 11, 12, 13, 21, 22, 23, 24, 39] mix [⟨0, [7], []⟩, ⟨0, [7], []⟩, ⟨0, [67], []⟩, ⟨1, [3, 68], []⟩, ⟨1, [69], [3]⟩, ⟨0, [10], []⟩, ⟨0, [70, 71], [3, 4]⟩, ⟨0, [7], []⟩, ⟨0, [73], []⟩, ⟨1, [3, 74], []⟩, ⟨1, [75], [9]⟩, ⟨0, [72, 76], [3, 4, 9, 10]⟩, ⟨0, [11], []⟩, ⟨0, [77, 78], [3, 4, 9, 10]⟩, ⟨1, [3, 66], [3, 4, 9, 10]⟩, ⟨2, [79, 80], [3, 4, 9, 10, 14]⟩] (by kernel_rfl) (by ((repeat (first | simp only [W, eqq, ↓reduceIte, Nat.reduceEqDiff, Nat.reduceLT, Nat.reduceLeDiff, Nat.reduceAdd, Nat.reduceMul, Nat.reduceSub, Nat.reduceBEq, Int.reduceLE, Int.reduceLT, Int.reduceNeg, Int.reduceToNat, Int.reduceEq, Int.reduceBEq, Int.reduceBNe, Nat.reduceBNe, bne_self_eq_false, reduceCtorEq, gt_iff_lt, ge_iff_le, hlt2, hm15, hm2, hm16, hm7, harl, g15, g2, g16, g7, l15, l2, l16, l7, i15, i2, i16, i7, ht64, rotc7, rotc18, rotc17, rotc19, u32_xor, u32_add, sr3, sr10, fsg0, fsg1, hars, hk1, gsz] | (rewrite [if_pos]; rotate_left; focus (first | omega | (simp only [LN, hlt2, hm15, hm2, hm16, hm7, harl, g15, g2, g16, g7, l15, l2, l16, l7, i15, i2, i16, i7, ht64, rotc7, rotc18, rotc17, rotc19, u32_xor, u32_add, sr3, sr10, fsg0, fsg1, hars, hk1, gsz]; omega) | (refine ⟨?_, ?_⟩ <;> (simp only [LN, hlt2, hm15, hm2, hm16, hm7, harl, g15, g2, g16, g7, l15, l2, l16, l7, i15, i2, i16, i7, ht64, rotc7, rotc18, rotc17, rotc19, u32_xor, u32_add, sr3, sr10, fsg0, fsg1, hars, hk1, gsz] <;> omega)))) | (rewrite [if_neg]; rotate_left; focus (first | omega | (simp only [LN, hlt2, hm15, hm2, hm16, hm7, harl, g15, g2, g16, g7, l15, l2, l16, l7, i15, i2, i16, i7, ht64, rotc7, rotc18, rotc17, rotc19, u32_xor, u32_add, sr3, sr10, fsg0, fsg1, hars, hk1, gsz]; omega) | (refine ⟨?_, ?_⟩ <;> (simp only [LN, hlt2, hm15, hm2, hm16, hm7, harl, g15, g2, g16, g7, l15, l2, l16, l7, i15, i2, i16, i7, ht64, rotc7, rotc18, rotc17, rotc19, u32_xor, u32_add, sr3, sr10, fsg0, fsg1, hars, hk1, gsz] <;> omega)))))); with_reducible rfl)) ?_; try show AWP _ _ _ _ _ _)))
      exact ⟨⟨t + 1, by omega, by omega⟩, Weak.to [0, 2, 3, 7] [0, 1] (show okIds 0 [0, 1] by decide) (by simp only [W, eqq, ↓reduceIte, Nat.reduceEqDiff, Nat.reduceLT, Nat.reduceLeDiff, Nat.reduceAdd, Nat.reduceMul, Nat.reduceSub, Nat.reduceBEq, Int.reduceLE, Int.reduceLT, Int.reduceNeg, Int.reduceToNat, Int.reduceEq, Int.reduceBEq, Int.reduceBNe, Nat.reduceBNe, bne_self_eq_false, reduceCtorEq, gt_iff_lt, ge_iff_le, hnx]), by simp only; omega⟩
    have hm1 : IntKind.i64.wrap (4 * (t : Int)) = ((4 * t : Nat) : Int) := by rw [wrap_i64 (by omega) (by omega)]; omega
    have hm2 : IntKind.i64.wrap (((4 * t : Nat) : Int) + 4) = ((4 * t + 4 : Nat) : Int) := by rw [wrap_i64 (by omega) (by omega)]; omega
    (repeat (first | refine AWP.seq ?_ | refine AWP.block ?_ | (refine AWP.greg X_ok cl32 [0, 2, 3, 4, 6, 7, 8, 9, 10, 11, 12, 13, 21, 22, 23, 24, 39] (by ((repeat (first | simp only [W, eqq, ↓reduceIte, Nat.reduceEqDiff, Nat.reduceLT, Nat.reduceLeDiff, Nat.reduceAdd, Nat.reduceMul, Nat.reduceSub, Nat.reduceBEq, Int.reduceLE, Int.reduceLT, Int.reduceNeg, Int.reduceToNat, Int.reduceEq, Int.reduceBEq, Int.reduceBNe, Nat.reduceBNe, bne_self_eq_false, reduceCtorEq, gt_iff_lt, ge_iff_le, hlt, hm1, hm2, hb] | (rewrite [if_pos]; rotate_left; focus (first | omega | (simp only [LN, hlt, hm1, hm2, hb]; omega) | (refine ⟨?_, ?_⟩ <;> (simp only [LN, hlt, hm1, hm2, hb] <;> omega)))) | (rewrite [if_neg]; rotate_left; focus (first | omega | (simp only [LN, hlt, hm1, hm2, hb]; omega) | (refine ⟨?_, ?_⟩ <;> (simp only [LN, hlt, hm1, hm2, hb] <;> omega)))))); with_reducible rfl)) ?_; try show AWP _ _ _ _ _ _) | (refine AWP.condT ?_ ?_; focus (simp only [W, eqq, ↓reduceIte, Nat.reduceEqDiff, Nat.reduceLT, Nat.reduceLeDiff, Nat.reduceAdd, Nat.reduceMul, Nat.reduceSub, Nat.reduceBEq, Int.reduceLE, Int.reduceLT, Int.reduceNeg, Int.reduceToNat, Int.reduceEq, Int.reduceBEq, Int.reduceBNe, Nat.reduceBNe, bne_self_eq_false, reduceCtorEq, gt_iff_lt, ge_iff_le, hlt, hm1, hm2, hb]; done)) | (refine AWP.condF ?_ ?_; focus (simp only [W, eqq, ↓reduceIte, Nat.reduceEqDiff, Nat.reduceLT, Nat.reduceLeDiff, Nat.reduceAdd, Nat.reduceMul, Nat.reduceSub, Nat.reduceBEq, Int.reduceLE, Int.reduceLT, Int.reduceNeg, Int.reduceToNat, Int.reduceEq, Int.reduceBEq, Int.reduceBNe, Nat.reduceBNe, bne_self_eq_false, reduceCtorEq, gt_iff_lt, ge_iff_le, hlt, hm1, hm2, hb]; done)) | (refine AWP.skip ?_; try show AWP _ _ _ _ _ _) | (refine AWP.exit ?_; try show AWP _ _ _ _ _ _)))
    have hdl : (List.drop (4 * t) (List.take (4 * t + 4) b)).length = 4 := by simp; omega
    generalize hR : List.drop (4 * t) (List.take (4 * t + 4) b) = R at hdl
    have ht64 : t < 64 := by omega
    have harl : ∀ z, (arS (sch b t ++ [z]) 64).length = 64 := fun z => arS_len (by simp [hsl]; omega)
    have harg : ∀ z, (arS (sch b t ++ [z]) 64).getD t default = .int .u32 (z.toNat : Int) := fun z => by
      rw [arS_get (by simp [hsl])]
      simp [List.getD_eq_getElem?_getD, hsl]
    have hars : ∀ z y : UInt32, (arS (sch b t ++ [z]) 64).set t (.int .u32 (y.toNat : Int)) = arS (sch b t ++ [y]) 64 := fun z y => by
      have := arS_set (l := sch b t) (n := 64) (x := y) (y := z) (by omega)
      rwa [hsl] at this
    have hsn : sch b t ++ [word b t] = sch b (t + 1) := by simp only [sch, next]; rw [if_pos (by omega)]
    have hk2 : IntKind.i64.wrap ((t : Int) + 1) = ((t + 1 : Nat) : Int) := by rw [wrap_i64 (by omega) (by omega)]; omega
    refine AWP.loop (G := { j : Nat // j ≤ 4 }) (fun j => ⟨[(0, .t (.by b)), (2, .ptr 0 0 []), (3, .ptr 1 0 []), (4, .t (.int .i64 (t : Int))), (12, .t (.int .i64 (t : Int))), (21, .t (.by R)), (22, .t (.int .i64 4)), (23, .t (.int .i64 (j.1 : Int)))], [.bx (.t (.ar 64 1 (zar 64 (.int .u32 0)))), .bx (.t (.ar 64 1 (arS (sch b t ++ [wacc b t j.1]) 64)))]⟩) (fun j => 4 - j.1) ⟨0, by omega⟩ (Weak.to [0, 2, 3, 4, 12, 21, 22, 23] [0, 1] (show okIds 0 [0, 1] by decide) (by rw [arS_zero (show (sch b t).length < 64 by omega)]; simp only [W, eqq, ↓reduceIte, Nat.reduceEqDiff, Nat.reduceLT, Nat.reduceLeDiff, Nat.reduceAdd, Nat.reduceMul, Nat.reduceSub, Nat.reduceBEq, Int.reduceLE, Int.reduceLT, Int.reduceNeg, Int.reduceToNat, Int.reduceEq, Int.reduceBEq, Int.reduceBNe, Nat.reduceBNe, bne_self_eq_false, reduceCtorEq, gt_iff_lt, ge_iff_le, wacc, hdl])) ?_
    intro ⟨j, hj⟩
    dsimp only
    by_cases hlt4 : (j : Int) < 4
    · have hRg : R.getD j 0 = b.getD (4 * t + j) 0 := by
        rw [← hR]; simp only [List.getD_eq_getElem?_getD, List.getElem?_drop, List.getElem?_take]
        rw [if_pos (by omega)]
      have hj4 : j < 4 := by omega
      have hk1 : IntKind.i64.wrap ((j : Int) + 1) = ((j + 1 : Nat) : Int) := by rw [wrap_i64 (by omega) (by omega)]; omega
      (repeat (first | refine AWP.seq ?_ | refine AWP.block ?_ | (refine AWP.greg X_ok cl32 [0, 2, 3, 4, 6, 7, 8, 9, 10, 11, 12, 13, 21, 22, 23, 24, 39] (by ((repeat (first | simp only [W, eqq, ↓reduceIte, Nat.reduceEqDiff, Nat.reduceLT, Nat.reduceLeDiff, Nat.reduceAdd, Nat.reduceMul, Nat.reduceSub, Nat.reduceBEq, Int.reduceLE, Int.reduceLT, Int.reduceNeg, Int.reduceToNat, Int.reduceEq, Int.reduceBEq, Int.reduceBNe, Nat.reduceBNe, bne_self_eq_false, reduceCtorEq, gt_iff_lt, ge_iff_le, hlt4, hRg, hj4, hdl, harl, harg, hars, ht64, sl8, u32_of_u8, u32_or, hk1, u8] | (rewrite [if_pos]; rotate_left; focus (first | omega | (simp only [LN, hlt4, hRg, hj4, hdl, harl, harg, hars, ht64, sl8, u32_of_u8, u32_or, hk1, u8]; omega) | (refine ⟨?_, ?_⟩ <;> (simp only [LN, hlt4, hRg, hj4, hdl, harl, harg, hars, ht64, sl8, u32_of_u8, u32_or, hk1, u8] <;> omega)))) | (rewrite [if_neg]; rotate_left; focus (first | omega | (simp only [LN, hlt4, hRg, hj4, hdl, harl, harg, hars, ht64, sl8, u32_of_u8, u32_or, hk1, u8]; omega) | (refine ⟨?_, ?_⟩ <;> (simp only [LN, hlt4, hRg, hj4, hdl, harl, harg, hars, ht64, sl8, u32_of_u8, u32_or, hk1, u8] <;> omega)))))); with_reducible rfl)) ?_; try show AWP _ _ _ _ _ _) | (refine AWP.condT ?_ ?_; focus (simp only [W, eqq, ↓reduceIte, Nat.reduceEqDiff, Nat.reduceLT, Nat.reduceLeDiff, Nat.reduceAdd, Nat.reduceMul, Nat.reduceSub, Nat.reduceBEq, Int.reduceLE, Int.reduceLT, Int.reduceNeg, Int.reduceToNat, Int.reduceEq, Int.reduceBEq, Int.reduceBNe, Nat.reduceBNe, bne_self_eq_false, reduceCtorEq, gt_iff_lt, ge_iff_le, hlt4, hRg, hj4, hdl, harl, harg, hars, ht64, sl8, u32_of_u8, u32_or, hk1, u8]; done)) | (refine AWP.condF ?_ ?_; focus (simp only [W, eqq, ↓reduceIte, Nat.reduceEqDiff, Nat.reduceLT, Nat.reduceLeDiff, Nat.reduceAdd, Nat.reduceMul, Nat.reduceSub, Nat.reduceBEq, Int.reduceLE, Int.reduceLT, Int.reduceNeg, Int.reduceToNat, Int.reduceEq, Int.reduceBEq, Int.reduceBNe, Nat.reduceBNe, bne_self_eq_false, reduceCtorEq, gt_iff_lt, ge_iff_le, hlt4, hRg, hj4, hdl, harl, harg, hars, ht64, sl8, u32_of_u8, u32_or, hk1, u8]; done)) | (refine AWP.skip ?_; try show AWP _ _ _ _ _ _) | (refine AWP.exit ?_; try show AWP _ _ _ _ _ _)))
      exact ⟨⟨j + 1, by omega⟩, Weak.to [0, 2, 3, 4, 12, 21, 22, 23] [0, 1] (show okIds 0 [0, 1] by decide) (by simp only [W, eqq, ↓reduceIte, Nat.reduceEqDiff, Nat.reduceLT, Nat.reduceLeDiff, Nat.reduceAdd, Nat.reduceMul, Nat.reduceSub, Nat.reduceBEq, Int.reduceLE, Int.reduceLT, Int.reduceNeg, Int.reduceToNat, Int.reduceEq, Int.reduceBEq, Int.reduceBNe, Nat.reduceBNe, bne_self_eq_false, reduceCtorEq, gt_iff_lt, ge_iff_le, wacc]), by simp only; omega⟩
    · obtain rfl : j = 4 := by omega
      (repeat (first | refine AWP.seq ?_ | refine AWP.block ?_ | (refine AWP.greg X_ok cl32 [0, 2, 3, 4, 6, 7, 8, 9, 10, 11, 12, 13, 21, 22, 23, 24, 39] (by ((repeat (first | simp only [W, eqq, ↓reduceIte, Nat.reduceEqDiff, Nat.reduceLT, Nat.reduceLeDiff, Nat.reduceAdd, Nat.reduceMul, Nat.reduceSub, Nat.reduceBEq, Int.reduceLE, Int.reduceLT, Int.reduceNeg, Int.reduceToNat, Int.reduceEq, Int.reduceBEq, Int.reduceBNe, Nat.reduceBNe, bne_self_eq_false, reduceCtorEq, gt_iff_lt, ge_iff_le, hlt4, hk2] | (rewrite [if_pos]; rotate_left; focus (first | omega | (simp only [LN, hlt4, hk2]; omega) | (refine ⟨?_, ?_⟩ <;> (simp only [LN, hlt4, hk2] <;> omega)))) | (rewrite [if_neg]; rotate_left; focus (first | omega | (simp only [LN, hlt4, hk2]; omega) | (refine ⟨?_, ?_⟩ <;> (simp only [LN, hlt4, hk2] <;> omega)))))); with_reducible rfl)) ?_; try show AWP _ _ _ _ _ _) | (refine AWP.condT ?_ ?_; focus (simp only [W, eqq, ↓reduceIte, Nat.reduceEqDiff, Nat.reduceLT, Nat.reduceLeDiff, Nat.reduceAdd, Nat.reduceMul, Nat.reduceSub, Nat.reduceBEq, Int.reduceLE, Int.reduceLT, Int.reduceNeg, Int.reduceToNat, Int.reduceEq, Int.reduceBEq, Int.reduceBNe, Nat.reduceBNe, bne_self_eq_false, reduceCtorEq, gt_iff_lt, ge_iff_le, hlt4, hk2]; done)) | (refine AWP.condF ?_ ?_; focus (simp only [W, eqq, ↓reduceIte, Nat.reduceEqDiff, Nat.reduceLT, Nat.reduceLeDiff, Nat.reduceAdd, Nat.reduceMul, Nat.reduceSub, Nat.reduceBEq, Int.reduceLE, Int.reduceLT, Int.reduceNeg, Int.reduceToNat, Int.reduceEq, Int.reduceBEq, Int.reduceBNe, Nat.reduceBNe, bne_self_eq_false, reduceCtorEq, gt_iff_lt, ge_iff_le, hlt4, hk2]; done)) | (refine AWP.skip ?_; try show AWP _ _ _ _ _ _) | (refine AWP.exit ?_; try show AWP _ _ _ _ _ _)))
      exact ⟨⟨t + 1, by omega⟩, Weak.to [0, 2, 3, 12] [0, 1] (show okIds 0 [0, 1] by decide) (by simp only [W, eqq, ↓reduceIte, Nat.reduceEqDiff, Nat.reduceLT, Nat.reduceLeDiff, Nat.reduceAdd, Nat.reduceMul, Nat.reduceSub, Nat.reduceBEq, Int.reduceLE, Int.reduceLT, Int.reduceNeg, Int.reduceToNat, Int.reduceEq, Int.reduceBEq, Int.reduceBNe, Nat.reduceBNe, bne_self_eq_false, reduceCtorEq, gt_iff_lt, ge_iff_le, wacc4, hsn]), by simp only; omega⟩

end Go.Fw

end

section
/- Chapter 7: a block taken. -/
namespace Go.Fw
open Go Go.Proofs
set_option linter.unusedVariables false
set_option linter.unusedSimpArgs false

theorem u32T_inj {a b : UInt32} (h : u32T a = u32T b) : a = b := by
  simp only [u32T, T.int.injEq, true_and] at h
  exact UInt32.toNat_inj.1 (by omega)
noncomputable def asS8 (xs : List T) : Option S8 := inv (fun s : S8 => s.l.map u32T) xs
theorem asS8_map (s : S8) : asS8 (s.l.map u32T) = some s := inv_of (f := fun s : S8 => s.l.map u32T) (fun a b h => by
  simp only [S8.l, List.map_cons, List.map_nil, List.cons.injEq, and_true] at h
  obtain ⟨h1, h2, h3, h4, h5, h6, h7, h8⟩ := h
  cases a; cases b
  simp only [S8.mk.injEq]
  exact ⟨u32T_inj h1, u32T_inj h2, u32T_inj h3, u32T_inj h4, u32T_inj h5, u32T_inj h6, u32T_inj h7, u32T_inj h8⟩) s
theorem asS8_inv {xs : List T} {s : S8} (h : asS8 xs = some s) : xs = s.l.map u32T := inv_inv (f := fun s : S8 => s.l.map u32T) h

/-- A variable of eight numbers, or a hash that begins with them. -/
noncomputable def G28 : GFun
  | [.bx (.t (.ar 8 1 xs))], [.ptr 0 0 [], .t (.by b)] => match asS8 xs with
    | some s => if b.length = 64 then some ([.bx (.t (.ar 8 1 ((blkS s b).l.map u32T)))], .tup []) else none
    | none => none
  | [.bx (.t (.st [.ar 8 1 xs, .by r, .int .u64 n]))], [.ptr 0 0 [0], .t (.by b)] => match asS8 xs with
    | some s => if b.length = 64 then some ([.bx (.t (.st [.ar 8 1 ((blkS s b).l.map u32T), .by r, .int .u64 n]))], .tup []) else none
    | none => none
  | _, _ => none

theorem cl28 : GClOk Try.prog [(32, ⟨[false], treeG F32⟩), (33, ⟨[], treeG F33⟩), (34, ⟨[false, false], treeG F34⟩)] := .cons c32.g (.cons c33.g (.cons c34.g (.nil _)))

def a8 (v : S8) : List T := [.int .u32 (v.a.toNat : Int), .int .u32 (v.b.toNat : Int), .int .u32 (v.c.toNat : Int), .int .u32 (v.d.toNat : Int), .int .u32 (v.e.toNat : Int), .int .u32 (v.f.toNat : Int), .int .u32 (v.g.toNat : Int), .int .u32 (v.h.toNat : Int)]
theorem a8_eq (v : S8) : v.l.map u32T = a8 v := rfl

theorem kS_len : kS.length = 64 := rfl

/-- The first so many numbers added. -/
def mixS (s v : S8) (i : Nat) : List T := ((s.add v).l.take i ++ s.l.drop i).map u32T
theorem mixS_len (s v : S8) : ∀ i, i ≤ 8 → (mixS s v i).length = 8
  | 0, _ => rfl | 1, _ => rfl | 2, _ => rfl | 3, _ => rfl | 4, _ => rfl | 5, _ => rfl | 6, _ => rfl | 7, _ => rfl | 8, _ => rfl
  | i + 9, h => by omega
theorem mixS_get (s v : S8) : ∀ i, i < 8 → (mixS s v i).getD i default = .int .u32 ((s.l.getD i 0).toNat : Int)
  | 0, _ => rfl | 1, _ => rfl | 2, _ => rfl | 3, _ => rfl | 4, _ => rfl | 5, _ => rfl | 6, _ => rfl | 7, _ => rfl
  | i + 8, h => by omega
theorem a8_get (v : S8) : ∀ i, i < 8 → (List.map u32T v.l).getD i default = .int .u32 ((v.l.getD i 0).toNat : Int)
  | 0, _ => rfl | 1, _ => rfl | 2, _ => rfl | 3, _ => rfl | 4, _ => rfl | 5, _ => rfl | 6, _ => rfl | 7, _ => rfl
  | i + 8, h => by omega
theorem mixS_set (s v : S8) : ∀ i, i < 8 → (mixS s v i).set i (.int .u32 ((s.l.getD i 0 + v.l.getD i 0).toNat : Int)) = mixS s v (i + 1)
  | 0, _ => rfl | 1, _ => rfl | 2, _ => rfl | 3, _ => rfl | 4, _ => rfl | 5, _ => rfl | 6, _ => rfl | 7, _ => rfl
  | i + 8, h => by omega
theorem mixS_0 (s v : S8) : mixS s v 0 = s.l.map u32T := rfl
theorem mixS_8 (s v : S8) : mixS s v 8 = (s.add v).l.map u32T := rfl

set_option maxHeartbeats 4000000 in
theorem g28 : GCon Try.prog 28 G28 := by
  refine gconc E_ok (rs := []) Try.func28 rfl Try.ntmps28 (by kernel_rfl) rfl (by decide) G28 (np := 2) ?_ ?_
  · intro HB xs h; unfold G28; split <;> first | rfl | (simp at h; done)
  intro HB xs H r hG hwf hex
  unfold G28 at hG
  split at hG <;> try (cases hG; done)
  · rename_i xs b
    split at hG
    case h_2 => cases hG
    rename_i s hs
    split at hG
    case isFalse => cases hG
    rename_i hb
    cases hG
    obtain rfl := asS8_inv hs
    have hsp : F32 [.by b] = some ([], .t (.ar 64 1 ((sch b 64).map u32T))) := if_pos hb
    (repeat (first | refine AWP.seq ?_ | refine AWP.block ?_ | (refine AWP.greg X_ok cl28 [0, 1, 4, 5, 6, 7, 8, 9, 10, 11, 12, 19, 20, 101, 102] (by ((repeat (first | simp only [W, eqq, ↓reduceIte, Nat.reduceEqDiff, Nat.reduceLT, Nat.reduceLeDiff, Nat.reduceAdd, Nat.reduceMul, Nat.reduceSub, Nat.reduceBEq, Int.reduceLE, Int.reduceLT, Int.reduceNeg, Int.reduceToNat, Int.reduceEq, Int.reduceBEq, Int.reduceBNe, Nat.reduceBNe, bne_self_eq_false, reduceCtorEq, gt_iff_lt, ge_iff_le, gentry, hsp, F33] | (rewrite [if_pos]; rotate_left; focus (first | omega | (simp only [LN, gentry, hsp, F33]; omega) | (refine ⟨?_, ?_⟩ <;> (simp only [LN, gentry, hsp, F33] <;> omega)))) | (rewrite [if_neg]; rotate_left; focus (first | omega | (simp only [LN, gentry, hsp, F33]; omega) | (refine ⟨?_, ?_⟩ <;> (simp only [LN, gentry, hsp, F33] <;> omega)))))); with_reducible rfl)) ?_; try show AWP _ _ _ _ _ _) | (refine AWP.condT ?_ ?_; focus (simp only [W, eqq, ↓reduceIte, Nat.reduceEqDiff, Nat.reduceLT, Nat.reduceLeDiff, Nat.reduceAdd, Nat.reduceMul, Nat.reduceSub, Nat.reduceBEq, Int.reduceLE, Int.reduceLT, Int.reduceNeg, Int.reduceToNat, Int.reduceEq, Int.reduceBEq, Int.reduceBNe, Nat.reduceBNe, bne_self_eq_false, reduceCtorEq, gt_iff_lt, ge_iff_le, gentry, hsp, F33]; done)) | (refine AWP.condF ?_ ?_; focus (simp only [W, eqq, ↓reduceIte, Nat.reduceEqDiff, Nat.reduceLT, Nat.reduceLeDiff, Nat.reduceAdd, Nat.reduceMul, Nat.reduceSub, Nat.reduceBEq, Int.reduceLE, Int.reduceLT, Int.reduceNeg, Int.reduceToNat, Int.reduceEq, Int.reduceBEq, Int.reduceBNe, Nat.reduceBNe, bne_self_eq_false, reduceCtorEq, gt_iff_lt, ge_iff_le, gentry, hsp, F33]; done)) | (refine AWP.skip ?_; try show AWP _ _ _ _ _ _) | (refine AWP.exit ?_; try show AWP _ _ _ _ _ _)))
    refine AWP.loop (G := { t : Nat // t ≤ 64 }) (fun t => ⟨[(0, .ptr 0 0 []), (4, .ptr 1 0 []), (5, .ptr 2 0 []), (6, .ptr 3 0 []), (19, .t (.int .i64 (t.1 : Int)))], [.bx (.t (.ar 8 1 (s.l.map u32T))), .bx (.t (.ar 64 1 ((sch b 64).map u32T))), .bx (.t (.ar 64 1 (kS.map u32T))), .bx (.t (.ar 8 1 ((rnds b s t.1).l.map u32T)))]⟩) (fun t => 64 - t.1) ⟨0, by omega⟩ (Weak.to [0, 4, 5, 6, 19] [0, 1, 2, 3] (show okIds 1 [0, 1, 2, 3] by decide) (by simp only [W, eqq, ↓reduceIte, Nat.reduceEqDiff, Nat.reduceLT, Nat.reduceLeDiff, Nat.reduceAdd, Nat.reduceMul, Nat.reduceSub, Nat.reduceBEq, Int.reduceLE, Int.reduceLT, Int.reduceNeg, Int.reduceToNat, Int.reduceEq, Int.reduceBEq, Int.reduceBNe, Nat.reduceBNe, bne_self_eq_false, reduceCtorEq, gt_iff_lt, ge_iff_le, rnds])) ?_
    intro ⟨t, ht⟩
    dsimp only
    by_cases hlt : (t : Int) < 64
    case neg =>
      obtain rfl : t = 64 := by omega
      (repeat (first | refine AWP.seq ?_ | refine AWP.block ?_ | (refine AWP.greg X_ok cl28 [0, 1, 4, 5, 6, 7, 8, 9, 10, 11, 12, 19, 20, 101, 102] (by ((repeat (first | simp only [W, eqq, ↓reduceIte, Nat.reduceEqDiff, Nat.reduceLT, Nat.reduceLeDiff, Nat.reduceAdd, Nat.reduceMul, Nat.reduceSub, Nat.reduceBEq, Int.reduceLE, Int.reduceLT, Int.reduceNeg, Int.reduceToNat, Int.reduceEq, Int.reduceBEq, Int.reduceBNe, Nat.reduceBNe, bne_self_eq_false, reduceCtorEq, gt_iff_lt, ge_iff_le, hlt] | (rewrite [if_pos]; rotate_left; focus (first | omega | (simp only [LN, hlt]; omega) | (refine ⟨?_, ?_⟩ <;> (simp only [LN, hlt] <;> omega)))) | (rewrite [if_neg]; rotate_left; focus (first | omega | (simp only [LN, hlt]; omega) | (refine ⟨?_, ?_⟩ <;> (simp only [LN, hlt] <;> omega)))))); with_reducible rfl)) ?_; try show AWP _ _ _ _ _ _) | (refine AWP.condT ?_ ?_; focus (simp only [W, eqq, ↓reduceIte, Nat.reduceEqDiff, Nat.reduceLT, Nat.reduceLeDiff, Nat.reduceAdd, Nat.reduceMul, Nat.reduceSub, Nat.reduceBEq, Int.reduceLE, Int.reduceLT, Int.reduceNeg, Int.reduceToNat, Int.reduceEq, Int.reduceBEq, Int.reduceBNe, Nat.reduceBNe, bne_self_eq_false, reduceCtorEq, gt_iff_lt, ge_iff_le, hlt]; done)) | (refine AWP.condF ?_ ?_; focus (simp only [W, eqq, ↓reduceIte, Nat.reduceEqDiff, Nat.reduceLT, Nat.reduceLeDiff, Nat.reduceAdd, Nat.reduceMul, Nat.reduceSub, Nat.reduceBEq, Int.reduceLE, Int.reduceLT, Int.reduceNeg, Int.reduceToNat, Int.reduceEq, Int.reduceBEq, Int.reduceBNe, Nat.reduceBNe, bne_self_eq_false, reduceCtorEq, gt_iff_lt, ge_iff_le, hlt]; done)) | (refine AWP.skip ?_; try show AWP _ _ _ _ _ _) | (refine AWP.exit ?_; try show AWP _ _ _ _ _ _)))
      refine AWP.loop (G := { i : Nat // i ≤ 8 }) (fun i => ⟨[(0, .ptr 0 0 []), (6, .ptr 1 0 []), (101, .t (.int .i64 (i.1 : Int)))], [.bx (.t (.ar 8 1 (mixS s (rnds b s 64) i.1))), .bx (.t (.ar 8 1 ((rnds b s 64).l.map u32T)))]⟩) (fun i => 8 - i.1) ⟨0, by omega⟩ (Weak.to [0, 6, 101] [0, 3] (show okIds 1 [0, 3] by decide) (by simp only [W, eqq, ↓reduceIte, Nat.reduceEqDiff, Nat.reduceLT, Nat.reduceLeDiff, Nat.reduceAdd, Nat.reduceMul, Nat.reduceSub, Nat.reduceBEq, Int.reduceLE, Int.reduceLT, Int.reduceNeg, Int.reduceToNat, Int.reduceEq, Int.reduceBEq, Int.reduceBNe, Nat.reduceBNe, bne_self_eq_false, reduceCtorEq, gt_iff_lt, ge_iff_le, mixS_0])) ?_
      intro ⟨i, hi⟩
      dsimp only
      generalize hv : rnds b s 64 = v
      by_cases hl8 : (i : Int) < 8
      case neg =>
        obtain rfl : i = 8 := by omega
        have hfin : blkS s b = s.add v := by rw [← hv]; rfl
        (repeat (first | refine AWP.seq ?_ | refine AWP.block ?_ | (refine AWP.greg X_ok cl28 [0, 1, 4, 5, 6, 7, 8, 9, 10, 11, 12, 19, 20, 101, 102] (by ((repeat (first | simp only [W, eqq, ↓reduceIte, Nat.reduceEqDiff, Nat.reduceLT, Nat.reduceLeDiff, Nat.reduceAdd, Nat.reduceMul, Nat.reduceSub, Nat.reduceBEq, Int.reduceLE, Int.reduceLT, Int.reduceNeg, Int.reduceToNat, Int.reduceEq, Int.reduceBEq, Int.reduceBNe, Nat.reduceBNe, bne_self_eq_false, reduceCtorEq, gt_iff_lt, ge_iff_le, hl8] | (rewrite [if_pos]; rotate_left; focus (first | omega | (simp only [LN, hl8]; omega) | (refine ⟨?_, ?_⟩ <;> (simp only [LN, hl8] <;> omega)))) | (rewrite [if_neg]; rotate_left; focus (first | omega | (simp only [LN, hl8]; omega) | (refine ⟨?_, ?_⟩ <;> (simp only [LN, hl8] <;> omega)))))); with_reducible rfl)) ?_; try show AWP _ _ _ _ _ _) | (refine AWP.condT ?_ ?_; focus (simp only [W, eqq, ↓reduceIte, Nat.reduceEqDiff, Nat.reduceLT, Nat.reduceLeDiff, Nat.reduceAdd, Nat.reduceMul, Nat.reduceSub, Nat.reduceBEq, Int.reduceLE, Int.reduceLT, Int.reduceNeg, Int.reduceToNat, Int.reduceEq, Int.reduceBEq, Int.reduceBNe, Nat.reduceBNe, bne_self_eq_false, reduceCtorEq, gt_iff_lt, ge_iff_le, hl8]; done)) | (refine AWP.condF ?_ ?_; focus (simp only [W, eqq, ↓reduceIte, Nat.reduceEqDiff, Nat.reduceLT, Nat.reduceLeDiff, Nat.reduceAdd, Nat.reduceMul, Nat.reduceSub, Nat.reduceBEq, Int.reduceLE, Int.reduceLT, Int.reduceNeg, Int.reduceToNat, Int.reduceEq, Int.reduceBEq, Int.reduceBNe, Nat.reduceBNe, bne_self_eq_false, reduceCtorEq, gt_iff_lt, ge_iff_le, hl8]; done)) | (refine AWP.skip ?_; try show AWP _ _ _ _ _ _) | (refine AWP.exit ?_; try show AWP _ _ _ _ _ _)))
        refine ⟨.inl rfl, [], [0], (show okIds 1 [0] by decide), ?_⟩
        simp only [W, eqq, ↓reduceIte, Nat.reduceEqDiff, Nat.reduceLT, Nat.reduceLeDiff, Nat.reduceAdd, Nat.reduceMul, Nat.reduceSub, Nat.reduceBEq, Int.reduceLE, Int.reduceLT, Int.reduceNeg, Int.reduceToNat, Int.reduceEq, Int.reduceBEq, Int.reduceBNe, Nat.reduceBNe, bne_self_eq_false, reduceCtorEq, gt_iff_lt, ge_iff_le, cres, resVals, RS.val, thawV, freezeOnes, freezeOne, renH, one, AV.ren, AV.renL, Blk.ren, mixS_8, hfin]
      have hi8 : i < 8 := by omega
      have hml := mixS_len s v i (by omega)
      have hvl : (List.map u32T v.l).length = 8 := rfl
      have g1 := mixS_get s v i hi8
      have g2 := a8_get v i hi8
      have g3 := mixS_set s v i hi8
      have hk1 : IntKind.i64.wrap ((i : Int) + 1) = ((i + 1 : Nat) : Int) := by rw [wrap_i64 (by omega) (by omega)]; omega
      (repeat (first | refine AWP.seq ?_ | refine AWP.block ?_ | (refine AWP.greg X_ok cl28 [0, 1, 4, 5, 6, 7, 8, 9, 10, 11, 12, 19, 20, 101, 102] (by ((repeat (first | simp only [W, eqq, ↓reduceIte, Nat.reduceEqDiff, Nat.reduceLT, Nat.reduceLeDiff, Nat.reduceAdd, Nat.reduceMul, Nat.reduceSub, Nat.reduceBEq, Int.reduceLE, Int.reduceLT, Int.reduceNeg, Int.reduceToNat, Int.reduceEq, Int.reduceBEq, Int.reduceBNe, Nat.reduceBNe, bne_self_eq_false, reduceCtorEq, gt_iff_lt, ge_iff_le, hl8, hi8, hml, hvl, g1, g2, g3, u32_add, hk1, T.size] | (rewrite [if_pos]; rotate_left; focus (first | omega | (simp only [LN, hl8, hi8, hml, hvl, g1, g2, g3, u32_add, hk1, T.size]; omega) | (refine ⟨?_, ?_⟩ <;> (simp only [LN, hl8, hi8, hml, hvl, g1, g2, g3, u32_add, hk1, T.size] <;> omega)))) | (rewrite [if_neg]; rotate_left; focus (first | omega | (simp only [LN, hl8, hi8, hml, hvl, g1, g2, g3, u32_add, hk1, T.size]; omega) | (refine ⟨?_, ?_⟩ <;> (simp only [LN, hl8, hi8, hml, hvl, g1, g2, g3, u32_add, hk1, T.size] <;> omega)))))); with_reducible rfl)) ?_; try show AWP _ _ _ _ _ _) | (refine AWP.condT ?_ ?_; focus (simp only [W, eqq, ↓reduceIte, Nat.reduceEqDiff, Nat.reduceLT, Nat.reduceLeDiff, Nat.reduceAdd, Nat.reduceMul, Nat.reduceSub, Nat.reduceBEq, Int.reduceLE, Int.reduceLT, Int.reduceNeg, Int.reduceToNat, Int.reduceEq, Int.reduceBEq, Int.reduceBNe, Nat.reduceBNe, bne_self_eq_false, reduceCtorEq, gt_iff_lt, ge_iff_le, hl8, hi8, hml, hvl, g1, g2, g3, u32_add, hk1, T.size]; done)) | (refine AWP.condF ?_ ?_; focus (simp only [W, eqq, ↓reduceIte, Nat.reduceEqDiff, Nat.reduceLT, Nat.reduceLeDiff, Nat.reduceAdd, Nat.reduceMul, Nat.reduceSub, Nat.reduceBEq, Int.reduceLE, Int.reduceLT, Int.reduceNeg, Int.reduceToNat, Int.reduceEq, Int.reduceBEq, Int.reduceBNe, Nat.reduceBNe, bne_self_eq_false, reduceCtorEq, gt_iff_lt, ge_iff_le, hl8, hi8, hml, hvl, g1, g2, g3, u32_add, hk1, T.size]; done)) | (refine AWP.skip ?_; try show AWP _ _ _ _ _ _) | (refine AWP.exit ?_; try show AWP _ _ _ _ _ _) | (refine AWP.gdraw X_ok cl28 [0, 1, 4, 5, 6, 7, 8, 9, 10, 11, 12, 19, 20, 101, 102] mix [⟨0, [0], []⟩, ⟨0, [12], []⟩, ⟨0, [104], []⟩, ⟨1, [105, 106], []⟩, ⟨1, [107], [3]⟩, ⟨0, [12], []⟩, ⟨1, [6, 109], []⟩, ⟨1, [110], [6]⟩, ⟨0, [108, 111], [3, 4, 6, 7]⟩, ⟨0, [104], []⟩, ⟨1, [105, 113], [3, 4, 6, 7]⟩, ⟨2, [112, 114], [3, 4, 6, 7, 10]⟩] (by kernel_rfl) (by ((repeat (first | simp only [W, eqq, ↓reduceIte, Nat.reduceEqDiff, Nat.reduceLT, Nat.reduceLeDiff, Nat.reduceAdd, Nat.reduceMul, Nat.reduceSub, Nat.reduceBEq, Int.reduceLE, Int.reduceLT, Int.reduceNeg, Int.reduceToNat, Int.reduceEq, Int.reduceBEq, Int.reduceBNe, Nat.reduceBNe, bne_self_eq_false, reduceCtorEq, gt_iff_lt, ge_iff_le, hl8, hi8, hml, hvl, g1, g2, g3, u32_add, hk1, T.size] | (rewrite [if_pos]; rotate_left; focus (first | omega | (simp only [LN, hl8, hi8, hml, hvl, g1, g2, g3, u32_add, hk1, T.size]; omega) | (refine ⟨?_, ?_⟩ <;> (simp only [LN, hl8, hi8, hml, hvl, g1, g2, g3, u32_add, hk1, T.size] <;> omega)))) | (rewrite [if_neg]; rotate_left; focus (first | omega | (simp only [LN, hl8, hi8, hml, hvl, g1, g2, g3, u32_add, hk1, T.size]; omega) | (refine ⟨?_, ?_⟩ <;> (simp only [LN, hl8, hi8, hml, hvl, g1, g2, g3, u32_add, hk1, T.size] <;> omega)))))); with_reducible rfl)) ?_; try show AWP _ _ _ _ _ _)))
      exact ⟨⟨i + 1, by omega⟩, Weak.to [0, 6, 101] [0, 1] (show okIds 1 [0, 1] by decide) (by simp only [W, eqq, ↓reduceIte, Nat.reduceEqDiff, Nat.reduceLT, Nat.reduceLeDiff, Nat.reduceAdd, Nat.reduceMul, Nat.reduceSub, Nat.reduceBEq, Int.reduceLE, Int.reduceLT, Int.reduceNeg, Int.reduceToNat, Int.reduceEq, Int.reduceBEq, Int.reduceBNe, Nat.reduceBNe, bne_self_eq_false, reduceCtorEq, gt_iff_lt, ge_iff_le]), by simp only; omega⟩
    have ht64 : t < 64 := by omega
    have hk1 : IntKind.i64.wrap ((t : Int) + 1) = ((t + 1 : Nat) : Int) := by rw [wrap_i64 (by omega) (by omega)]; omega
    have hkl : (List.map u32T kS).length = 64 := by simp [kS_len]
    have hwl : (List.map u32T (sch b 64)).length = 64 := by simp [sch_len]
    have hkg : (List.map u32T kS).getD t default = .int .u32 ((kS.getD t 0).toNat : Int) := u32T_getD (by rw [kS_len]; exact ht64)
    have hwg : (List.map u32T (sch b 64)).getD t default = .int .u32 (((sch b 64).getD t 0).toNat : Int) := u32T_getD (by rw [sch_len]; exact ht64)
    have hnx : rnds b s (t + 1) = rnd (rnds b s t) (kS.getD t 0) ((sch b 64).getD t 0) := rfl
    generalize rnds b s t = v at *
    generalize kS.getD t 0 = k at *
    generalize (sch b 64).getD t 0 = w at *
    (repeat (first | refine AWP.seq ?_ | refine AWP.block ?_ | (refine AWP.greg X_ok cl28 [0, 1, 4, 5, 6, 7, 8, 9, 10, 11, 12, 19, 20, 101, 102] (by ((repeat (first | simp only [W, eqq, ↓reduceIte, Nat.reduceEqDiff, Nat.reduceLT, Nat.reduceLeDiff, Nat.reduceAdd, Nat.reduceMul, Nat.reduceSub, Nat.reduceBEq, Int.reduceLE, Int.reduceLT, Int.reduceNeg, Int.reduceToNat, Int.reduceEq, Int.reduceBEq, Int.reduceBNe, Nat.reduceBNe, bne_self_eq_false, reduceCtorEq, gt_iff_lt, ge_iff_le, hlt, a8_eq v, a8, hkl, hwl, hkg, hwg, ht64, hk1, rotc2, rotc6, rotc11, rotc13, rotc22, rotc25, u32_xor, u32_and, u32_add, u32_not, T.size] | (rewrite [if_pos]; rotate_left; focus (first | omega | (simp only [LN, hlt, a8_eq v, a8, hkl, hwl, hkg, hwg, ht64, hk1, rotc2, rotc6, rotc11, rotc13, rotc22, rotc25, u32_xor, u32_and, u32_add, u32_not, T.size]; omega) | (refine ⟨?_, ?_⟩ <;> (simp only [LN, hlt, a8_eq v, a8, hkl, hwl, hkg, hwg, ht64, hk1, rotc2, rotc6, rotc11, rotc13, rotc22, rotc25, u32_xor, u32_and, u32_add, u32_not, T.size] <;> omega)))) | (rewrite [if_neg]; rotate_left; focus (first | omega | (simp only [LN, hlt, a8_eq v, a8, hkl, hwl, hkg, hwg, ht64, hk1, rotc2, rotc6, rotc11, rotc13, rotc22, rotc25, u32_xor, u32_and, u32_add, u32_not, T.size]; omega) | (refine ⟨?_, ?_⟩ <;> (simp only [LN, hlt, a8_eq v, a8, hkl, hwl, hkg, hwg, ht64, hk1, rotc2, rotc6, rotc11, rotc13, rotc22, rotc25, u32_xor, u32_and, u32_add, u32_not, T.size] <;> omega)))))); with_reducible rfl)) ?_; try show AWP _ _ _ _ _ _) | (refine AWP.condT ?_ ?_; focus (simp only [W, eqq, ↓reduceIte, Nat.reduceEqDiff, Nat.reduceLT, Nat.reduceLeDiff, Nat.reduceAdd, Nat.reduceMul, Nat.reduceSub, Nat.reduceBEq, Int.reduceLE, Int.reduceLT, Int.reduceNeg, Int.reduceToNat, Int.reduceEq, Int.reduceBEq, Int.reduceBNe, Nat.reduceBNe, bne_self_eq_false, reduceCtorEq, gt_iff_lt, ge_iff_le, hlt, a8_eq v, a8, hkl, hwl, hkg, hwg, ht64, hk1, rotc2, rotc6, rotc11, rotc13, rotc22, rotc25, u32_xor, u32_and, u32_add, u32_not, T.size]; done)) | (refine AWP.condF ?_ ?_; focus (simp only [W, eqq, ↓reduceIte, Nat.reduceEqDiff, Nat.reduceLT, Nat.reduceLeDiff, Nat.reduceAdd, Nat.reduceMul, Nat.reduceSub, Nat.reduceBEq, Int.reduceLE, Int.reduceLT, Int.reduceNeg, Int.reduceToNat, Int.reduceEq, Int.reduceBEq, Int.reduceBNe, Nat.reduceBNe, bne_self_eq_false, reduceCtorEq, gt_iff_lt, ge_iff_le, hlt, a8_eq v, a8, hkl, hwl, hkg, hwg, ht64, hk1, rotc2, rotc6, rotc11, rotc13, rotc22, rotc25, u32_xor, u32_and, u32_add, u32_not, T.size]; done)) | (refine AWP.skip ?_; try show AWP _ _ _ _ _ _) | (refine AWP.exit ?_; try show AWP _ _ _ _ _ _) | (refine AWP.gdraw X_ok cl28 [0, 1, 4, 5, 6, 7, 8, 9, 10, 11, 12, 19, 20, 101, 102] mix (List.cons (⟨1, [6], []⟩ : Info) <| List.cons (⟨1, [24], [0]⟩ : Info) <| List.cons (⟨0, [8], []⟩ : Info) <| List.cons (⟨1, [26], []⟩ : Info) <| List.cons (⟨0, [8], []⟩ : Info) <| List.cons (⟨1, [28], [3]⟩ : Info) <| List.cons (⟨0, [27, 29], [3, 5]⟩ : Info) <| List.cons (⟨0, [8], []⟩ : Info) <| List.cons (⟨1, [31], [3, 5]⟩ : Info) <| List.cons (⟨0, [30, 32], [3, 5, 8]⟩ : Info) <| List.cons (⟨0, [25, 33], [0, 1, 3, 5, 8]⟩ : Info) <| List.cons (⟨0, [8], []⟩ : Info) <| List.cons (⟨1, [6], []⟩ : Info) <| List.cons (⟨1, [36], [12]⟩ : Info) <| List.cons (⟨0, [35, 37], [12, 13]⟩ : Info) <| List.cons (⟨0, [8], []⟩ : Info) <| List.cons (⟨0, [39], []⟩ : Info) <| List.cons (⟨1, [6], []⟩ : Info) <| List.cons (⟨1, [41], [17]⟩ : Info) <| List.cons (⟨0, [40, 42], [17, 18]⟩ : Info) <| List.cons (⟨0, [38, 43], [12, 13, 17, 18]⟩ : Info) <| List.cons (⟨0, [34, 44], [0, 1, 3, 5, 8, 12, 13, 17, 18]⟩ : Info) <| List.cons (⟨0, [7], []⟩ : Info) <| List.cons (⟨1, [5, 46], []⟩ : Info) <| List.cons (⟨1, [47], [23]⟩ : Info) <| List.cons (⟨0, [45, 48], [0, 1, 3, 5, 8, 12, 13, 17, 18, 23, 24]⟩ : Info) <| List.cons (⟨0, [7], []⟩ : Info) <| List.cons (⟨1, [4, 50], []⟩ : Info) <| List.cons (⟨1, [51], [27]⟩ : Info) <| List.cons (⟨0, [49, 52], [0, 1, 3, 5, 8, 12, 13, 17, 18, 23, 24, 27, 28]⟩ : Info) <| List.cons (⟨0, [53], [0, 1, 3, 5, 8, 12, 13, 17, 18, 23, 24, 27, 28]⟩ : Info) <| []) (by kernel_rfl) (by ((repeat (first | simp only [W, eqq, ↓reduceIte, Nat.reduceEqDiff, Nat.reduceLT, Nat.reduceLeDiff, Nat.reduceAdd, Nat.reduceMul, Nat.reduceSub, Nat.reduceBEq, Int.reduceLE, Int.reduceLT, Int.reduceNeg, Int.reduceToNat, Int.reduceEq, Int.reduceBEq, Int.reduceBNe, Nat.reduceBNe, bne_self_eq_false, reduceCtorEq, gt_iff_lt, ge_iff_le, hlt, a8_eq v, a8, hkl, hwl, hkg, hwg, ht64, hk1, rotc2, rotc6, rotc11, rotc13, rotc22, rotc25, u32_xor, u32_and, u32_add, u32_not, T.size] | (rewrite [if_pos]; rotate_left; focus (first | omega | (simp only [LN, hlt, a8_eq v, a8, hkl, hwl, hkg, hwg, ht64, hk1, rotc2, rotc6, rotc11, rotc13, rotc22, rotc25, u32_xor, u32_and, u32_add, u32_not, T.size]; omega) | (refine ⟨?_, ?_⟩ <;> (simp only [LN, hlt, a8_eq v, a8, hkl, hwl, hkg, hwg, ht64, hk1, rotc2, rotc6, rotc11, rotc13, rotc22, rotc25, u32_xor, u32_and, u32_add, u32_not, T.size] <;> omega)))) | (rewrite [if_neg]; rotate_left; focus (first | omega | (simp only [LN, hlt, a8_eq v, a8, hkl, hwl, hkg, hwg, ht64, hk1, rotc2, rotc6, rotc11, rotc13, rotc22, rotc25, u32_xor, u32_and, u32_add, u32_not, T.size]; omega) | (refine ⟨?_, ?_⟩ <;> (simp only [LN, hlt, a8_eq v, a8, hkl, hwl, hkg, hwg, ht64, hk1, rotc2, rotc6, rotc11, rotc13, rotc22, rotc25, u32_xor, u32_and, u32_add, u32_not, T.size] <;> omega)))))); with_reducible rfl)) ?_; try show AWP _ _ _ _ _ _) | (refine AWP.gdraw X_ok cl28 [0, 1, 4, 5, 6, 7, 8, 9, 10, 11, 12, 19, 20, 101, 102] mix [⟨0, [10], []⟩, ⟨1, [56], []⟩, ⟨0, [10], []⟩, ⟨1, [58], [1]⟩, ⟨0, [57, 59], [1, 3]⟩, ⟨0, [10], []⟩, ⟨1, [61], [1, 3]⟩, ⟨0, [60, 62], [1, 3, 6]⟩, ⟨0, [10], []⟩, ⟨1, [6], []⟩, ⟨1, [65], [9]⟩, ⟨0, [64, 66], [9, 10]⟩, ⟨0, [10], []⟩, ⟨1, [6], []⟩, ⟨1, [69], [13]⟩, ⟨0, [68, 70], [13, 14]⟩, ⟨0, [67, 71], [9, 10, 13, 14]⟩, ⟨1, [6], []⟩, ⟨1, [73], [17]⟩, ⟨1, [6], []⟩, ⟨1, [75], [19]⟩, ⟨0, [74, 76], [17, 18, 19, 20]⟩, ⟨0, [72, 77], [9, 10, 13, 14, 17, 18, 19, 20]⟩, ⟨0, [63, 78], [1, 3, 6, 9, 10, 13, 14, 17, 18, 19, 20]⟩, ⟨0, [79], [1, 3, 6, 9, 10, 13, 14, 17, 18, 19, 20]⟩] (by kernel_rfl) (by ((repeat (first | simp only [W, eqq, ↓reduceIte, Nat.reduceEqDiff, Nat.reduceLT, Nat.reduceLeDiff, Nat.reduceAdd, Nat.reduceMul, Nat.reduceSub, Nat.reduceBEq, Int.reduceLE, Int.reduceLT, Int.reduceNeg, Int.reduceToNat, Int.reduceEq, Int.reduceBEq, Int.reduceBNe, Nat.reduceBNe, bne_self_eq_false, reduceCtorEq, gt_iff_lt, ge_iff_le, hlt, a8_eq v, a8, hkl, hwl, hkg, hwg, ht64, hk1, rotc2, rotc6, rotc11, rotc13, rotc22, rotc25, u32_xor, u32_and, u32_add, u32_not, T.size] | (rewrite [if_pos]; rotate_left; focus (first | omega | (simp only [LN, hlt, a8_eq v, a8, hkl, hwl, hkg, hwg, ht64, hk1, rotc2, rotc6, rotc11, rotc13, rotc22, rotc25, u32_xor, u32_and, u32_add, u32_not, T.size]; omega) | (refine ⟨?_, ?_⟩ <;> (simp only [LN, hlt, a8_eq v, a8, hkl, hwl, hkg, hwg, ht64, hk1, rotc2, rotc6, rotc11, rotc13, rotc22, rotc25, u32_xor, u32_and, u32_add, u32_not, T.size] <;> omega)))) | (rewrite [if_neg]; rotate_left; focus (first | omega | (simp only [LN, hlt, a8_eq v, a8, hkl, hwl, hkg, hwg, ht64, hk1, rotc2, rotc6, rotc11, rotc13, rotc22, rotc25, u32_xor, u32_and, u32_add, u32_not, T.size]; omega) | (refine ⟨?_, ?_⟩ <;> (simp only [LN, hlt, a8_eq v, a8, hkl, hwl, hkg, hwg, ht64, hk1, rotc2, rotc6, rotc11, rotc13, rotc22, rotc25, u32_xor, u32_and, u32_add, u32_not, T.size] <;> omega)))))); with_reducible rfl)) ?_; try show AWP _ _ _ _ _ _)))
    exact ⟨⟨t + 1, by omega⟩, Weak.to [0, 4, 5, 6, 19] [0, 1, 2, 3] (show okIds 1 [0, 1, 2, 3] by decide) (by simp only [W, eqq, ↓reduceIte, Nat.reduceEqDiff, Nat.reduceLT, Nat.reduceLeDiff, Nat.reduceAdd, Nat.reduceMul, Nat.reduceSub, Nat.reduceBEq, Int.reduceLE, Int.reduceLT, Int.reduceNeg, Int.reduceToNat, Int.reduceEq, Int.reduceBEq, Int.reduceBNe, Nat.reduceBNe, bne_self_eq_false, reduceCtorEq, gt_iff_lt, ge_iff_le, hnx, rnd, t1S, t2S, S8.l, u32T]), by simp only; omega⟩
  · rename_i xs r n b
    split at hG
    case h_2 => cases hG
    rename_i s hs
    split at hG
    case isFalse => cases hG
    rename_i hb
    cases hG
    obtain rfl := asS8_inv hs
    have hsp : F32 [.by b] = some ([], .t (.ar 64 1 ((sch b 64).map u32T))) := if_pos hb
    (repeat (first | refine AWP.seq ?_ | refine AWP.block ?_ | (refine AWP.greg X_ok cl28 [0, 1, 4, 5, 6, 7, 8, 9, 10, 11, 12, 19, 20, 101, 102] (by ((repeat (first | simp only [W, eqq, ↓reduceIte, Nat.reduceEqDiff, Nat.reduceLT, Nat.reduceLeDiff, Nat.reduceAdd, Nat.reduceMul, Nat.reduceSub, Nat.reduceBEq, Int.reduceLE, Int.reduceLT, Int.reduceNeg, Int.reduceToNat, Int.reduceEq, Int.reduceBEq, Int.reduceBNe, Nat.reduceBNe, bne_self_eq_false, reduceCtorEq, gt_iff_lt, ge_iff_le, gentry, hsp, F33] | (rewrite [if_pos]; rotate_left; focus (first | omega | (simp only [LN, gentry, hsp, F33]; omega) | (refine ⟨?_, ?_⟩ <;> (simp only [LN, gentry, hsp, F33] <;> omega)))) | (rewrite [if_neg]; rotate_left; focus (first | omega | (simp only [LN, gentry, hsp, F33]; omega) | (refine ⟨?_, ?_⟩ <;> (simp only [LN, gentry, hsp, F33] <;> omega)))))); with_reducible rfl)) ?_; try show AWP _ _ _ _ _ _) | (refine AWP.condT ?_ ?_; focus (simp only [W, eqq, ↓reduceIte, Nat.reduceEqDiff, Nat.reduceLT, Nat.reduceLeDiff, Nat.reduceAdd, Nat.reduceMul, Nat.reduceSub, Nat.reduceBEq, Int.reduceLE, Int.reduceLT, Int.reduceNeg, Int.reduceToNat, Int.reduceEq, Int.reduceBEq, Int.reduceBNe, Nat.reduceBNe, bne_self_eq_false, reduceCtorEq, gt_iff_lt, ge_iff_le, gentry, hsp, F33]; done)) | (refine AWP.condF ?_ ?_; focus (simp only [W, eqq, ↓reduceIte, Nat.reduceEqDiff, Nat.reduceLT, Nat.reduceLeDiff, Nat.reduceAdd, Nat.reduceMul, Nat.reduceSub, Nat.reduceBEq, Int.reduceLE, Int.reduceLT, Int.reduceNeg, Int.reduceToNat, Int.reduceEq, Int.reduceBEq, Int.reduceBNe, Nat.reduceBNe, bne_self_eq_false, reduceCtorEq, gt_iff_lt, ge_iff_le, gentry, hsp, F33]; done)) | (refine AWP.skip ?_; try show AWP _ _ _ _ _ _) | (refine AWP.exit ?_; try show AWP _ _ _ _ _ _)))
    refine AWP.loop (G := { t : Nat // t ≤ 64 }) (fun t => ⟨[(0, .ptr 0 0 [0]), (4, .ptr 1 0 []), (5, .ptr 2 0 []), (6, .ptr 3 0 []), (19, .t (.int .i64 (t.1 : Int)))], [.bx (.t (.st [.ar 8 1 (s.l.map u32T), .by r, .int .u64 n])), .bx (.t (.ar 64 1 ((sch b 64).map u32T))), .bx (.t (.ar 64 1 (kS.map u32T))), .bx (.t (.ar 8 1 ((rnds b s t.1).l.map u32T)))]⟩) (fun t => 64 - t.1) ⟨0, by omega⟩ (Weak.to [0, 4, 5, 6, 19] [0, 1, 2, 3] (show okIds 1 [0, 1, 2, 3] by decide) (by simp only [W, eqq, ↓reduceIte, Nat.reduceEqDiff, Nat.reduceLT, Nat.reduceLeDiff, Nat.reduceAdd, Nat.reduceMul, Nat.reduceSub, Nat.reduceBEq, Int.reduceLE, Int.reduceLT, Int.reduceNeg, Int.reduceToNat, Int.reduceEq, Int.reduceBEq, Int.reduceBNe, Nat.reduceBNe, bne_self_eq_false, reduceCtorEq, gt_iff_lt, ge_iff_le, rnds])) ?_
    intro ⟨t, ht⟩
    dsimp only
    by_cases hlt : (t : Int) < 64
    case neg =>
      obtain rfl : t = 64 := by omega
      (repeat (first | refine AWP.seq ?_ | refine AWP.block ?_ | (refine AWP.greg X_ok cl28 [0, 1, 4, 5, 6, 7, 8, 9, 10, 11, 12, 19, 20, 101, 102] (by ((repeat (first | simp only [W, eqq, ↓reduceIte, Nat.reduceEqDiff, Nat.reduceLT, Nat.reduceLeDiff, Nat.reduceAdd, Nat.reduceMul, Nat.reduceSub, Nat.reduceBEq, Int.reduceLE, Int.reduceLT, Int.reduceNeg, Int.reduceToNat, Int.reduceEq, Int.reduceBEq, Int.reduceBNe, Nat.reduceBNe, bne_self_eq_false, reduceCtorEq, gt_iff_lt, ge_iff_le, hlt] | (rewrite [if_pos]; rotate_left; focus (first | omega | (simp only [LN, hlt]; omega) | (refine ⟨?_, ?_⟩ <;> (simp only [LN, hlt] <;> omega)))) | (rewrite [if_neg]; rotate_left; focus (first | omega | (simp only [LN, hlt]; omega) | (refine ⟨?_, ?_⟩ <;> (simp only [LN, hlt] <;> omega)))))); with_reducible rfl)) ?_; try show AWP _ _ _ _ _ _) | (refine AWP.condT ?_ ?_; focus (simp only [W, eqq, ↓reduceIte, Nat.reduceEqDiff, Nat.reduceLT, Nat.reduceLeDiff, Nat.reduceAdd, Nat.reduceMul, Nat.reduceSub, Nat.reduceBEq, Int.reduceLE, Int.reduceLT, Int.reduceNeg, Int.reduceToNat, Int.reduceEq, Int.reduceBEq, Int.reduceBNe, Nat.reduceBNe, bne_self_eq_false, reduceCtorEq, gt_iff_lt, ge_iff_le, hlt]; done)) | (refine AWP.condF ?_ ?_; focus (simp only [W, eqq, ↓reduceIte, Nat.reduceEqDiff, Nat.reduceLT, Nat.reduceLeDiff, Nat.reduceAdd, Nat.reduceMul, Nat.reduceSub, Nat.reduceBEq, Int.reduceLE, Int.reduceLT, Int.reduceNeg, Int.reduceToNat, Int.reduceEq, Int.reduceBEq, Int.reduceBNe, Nat.reduceBNe, bne_self_eq_false, reduceCtorEq, gt_iff_lt, ge_iff_le, hlt]; done)) | (refine AWP.skip ?_; try show AWP _ _ _ _ _ _) | (refine AWP.exit ?_; try show AWP _ _ _ _ _ _)))
      refine AWP.loop (G := { i : Nat // i ≤ 8 }) (fun i => ⟨[(0, .ptr 0 0 [0]), (6, .ptr 1 0 []), (101, .t (.int .i64 (i.1 : Int)))], [.bx (.t (.st [.ar 8 1 (mixS s (rnds b s 64) i.1), .by r, .int .u64 n])), .bx (.t (.ar 8 1 ((rnds b s 64).l.map u32T)))]⟩) (fun i => 8 - i.1) ⟨0, by omega⟩ (Weak.to [0, 6, 101] [0, 3] (show okIds 1 [0, 3] by decide) (by simp only [W, eqq, ↓reduceIte, Nat.reduceEqDiff, Nat.reduceLT, Nat.reduceLeDiff, Nat.reduceAdd, Nat.reduceMul, Nat.reduceSub, Nat.reduceBEq, Int.reduceLE, Int.reduceLT, Int.reduceNeg, Int.reduceToNat, Int.reduceEq, Int.reduceBEq, Int.reduceBNe, Nat.reduceBNe, bne_self_eq_false, reduceCtorEq, gt_iff_lt, ge_iff_le, mixS_0])) ?_
      intro ⟨i, hi⟩
      dsimp only
      generalize hv : rnds b s 64 = v
      by_cases hl8 : (i : Int) < 8
      case neg =>
        obtain rfl : i = 8 := by omega
        have hfin : blkS s b = s.add v := by rw [← hv]; rfl
        (repeat (first | refine AWP.seq ?_ | refine AWP.block ?_ | (refine AWP.greg X_ok cl28 [0, 1, 4, 5, 6, 7, 8, 9, 10, 11, 12, 19, 20, 101, 102] (by ((repeat (first | simp only [W, eqq, ↓reduceIte, Nat.reduceEqDiff, Nat.reduceLT, Nat.reduceLeDiff, Nat.reduceAdd, Nat.reduceMul, Nat.reduceSub, Nat.reduceBEq, Int.reduceLE, Int.reduceLT, Int.reduceNeg, Int.reduceToNat, Int.reduceEq, Int.reduceBEq, Int.reduceBNe, Nat.reduceBNe, bne_self_eq_false, reduceCtorEq, gt_iff_lt, ge_iff_le, hl8] | (rewrite [if_pos]; rotate_left; focus (first | omega | (simp only [LN, hl8]; omega) | (refine ⟨?_, ?_⟩ <;> (simp only [LN, hl8] <;> omega)))) | (rewrite [if_neg]; rotate_left; focus (first | omega | (simp only [LN, hl8]; omega) | (refine ⟨?_, ?_⟩ <;> (simp only [LN, hl8] <;> omega)))))); with_reducible rfl)) ?_; try show AWP _ _ _ _ _ _) | (refine AWP.condT ?_ ?_; focus (simp only [W, eqq, ↓reduceIte, Nat.reduceEqDiff, Nat.reduceLT, Nat.reduceLeDiff, Nat.reduceAdd, Nat.reduceMul, Nat.reduceSub, Nat.reduceBEq, Int.reduceLE, Int.reduceLT, Int.reduceNeg, Int.reduceToNat, Int.reduceEq, Int.reduceBEq, Int.reduceBNe, Nat.reduceBNe, bne_self_eq_false, reduceCtorEq, gt_iff_lt, ge_iff_le, hl8]; done)) | (refine AWP.condF ?_ ?_; focus (simp only [W, eqq, ↓reduceIte, Nat.reduceEqDiff, Nat.reduceLT, Nat.reduceLeDiff, Nat.reduceAdd, Nat.reduceMul, Nat.reduceSub, Nat.reduceBEq, Int.reduceLE, Int.reduceLT, Int.reduceNeg, Int.reduceToNat, Int.reduceEq, Int.reduceBEq, Int.reduceBNe, Nat.reduceBNe, bne_self_eq_false, reduceCtorEq, gt_iff_lt, ge_iff_le, hl8]; done)) | (refine AWP.skip ?_; try show AWP _ _ _ _ _ _) | (refine AWP.exit ?_; try show AWP _ _ _ _ _ _)))
        refine ⟨.inl rfl, [], [0], (show okIds 1 [0] by decide), ?_⟩
        simp only [W, eqq, ↓reduceIte, Nat.reduceEqDiff, Nat.reduceLT, Nat.reduceLeDiff, Nat.reduceAdd, Nat.reduceMul, Nat.reduceSub, Nat.reduceBEq, Int.reduceLE, Int.reduceLT, Int.reduceNeg, Int.reduceToNat, Int.reduceEq, Int.reduceBEq, Int.reduceBNe, Nat.reduceBNe, bne_self_eq_false, reduceCtorEq, gt_iff_lt, ge_iff_le, cres, resVals, RS.val, thawV, freezeOnes, freezeOne, renH, one, AV.ren, AV.renL, Blk.ren, mixS_8, hfin]
      have hi8 : i < 8 := by omega
      have hml := mixS_len s v i (by omega)
      have hvl : (List.map u32T v.l).length = 8 := rfl
      have g1 := mixS_get s v i hi8
      have g2 := a8_get v i hi8
      have g3 := mixS_set s v i hi8
      have hk1 : IntKind.i64.wrap ((i : Int) + 1) = ((i + 1 : Nat) : Int) := by rw [wrap_i64 (by omega) (by omega)]; omega
      (repeat (first | refine AWP.seq ?_ | refine AWP.block ?_ | (refine AWP.greg X_ok cl28 [0, 1, 4, 5, 6, 7, 8, 9, 10, 11, 12, 19, 20, 101, 102] (by ((repeat (first | simp only [W, eqq, ↓reduceIte, Nat.reduceEqDiff, Nat.reduceLT, Nat.reduceLeDiff, Nat.reduceAdd, Nat.reduceMul, Nat.reduceSub, Nat.reduceBEq, Int.reduceLE, Int.reduceLT, Int.reduceNeg, Int.reduceToNat, Int.reduceEq, Int.reduceBEq, Int.reduceBNe, Nat.reduceBNe, bne_self_eq_false, reduceCtorEq, gt_iff_lt, ge_iff_le, hl8, hi8, hml, hvl, g1, g2, g3, u32_add, hk1, T.size] | (rewrite [if_pos]; rotate_left; focus (first | omega | (simp only [LN, hl8, hi8, hml, hvl, g1, g2, g3, u32_add, hk1, T.size]; omega) | (refine ⟨?_, ?_⟩ <;> (simp only [LN, hl8, hi8, hml, hvl, g1, g2, g3, u32_add, hk1, T.size] <;> omega)))) | (rewrite [if_neg]; rotate_left; focus (first | omega | (simp only [LN, hl8, hi8, hml, hvl, g1, g2, g3, u32_add, hk1, T.size]; omega) | (refine ⟨?_, ?_⟩ <;> (simp only [LN, hl8, hi8, hml, hvl, g1, g2, g3, u32_add, hk1, T.size] <;> omega)))))); with_reducible rfl)) ?_; try show AWP _ _ _ _ _ _) | (refine AWP.condT ?_ ?_; focus (simp only [W, eqq, ↓reduceIte, Nat.reduceEqDiff, Nat.reduceLT, Nat.reduceLeDiff, Nat.reduceAdd, Nat.reduceMul, Nat.reduceSub, Nat.reduceBEq, Int.reduceLE, Int.reduceLT, Int.reduceNeg, Int.reduceToNat, Int.reduceEq, Int.reduceBEq, Int.reduceBNe, Nat.reduceBNe, bne_self_eq_false, reduceCtorEq, gt_iff_lt, ge_iff_le, hl8, hi8, hml, hvl, g1, g2, g3, u32_add, hk1, T.size]; done)) | (refine AWP.condF ?_ ?_; focus (simp only [W, eqq, ↓reduceIte, Nat.reduceEqDiff, Nat.reduceLT, Nat.reduceLeDiff, Nat.reduceAdd, Nat.reduceMul, Nat.reduceSub, Nat.reduceBEq, Int.reduceLE, Int.reduceLT, Int.reduceNeg, Int.reduceToNat, Int.reduceEq, Int.reduceBEq, Int.reduceBNe, Nat.reduceBNe, bne_self_eq_false, reduceCtorEq, gt_iff_lt, ge_iff_le, hl8, hi8, hml, hvl, g1, g2, g3, u32_add, hk1, T.size]; done)) | (refine AWP.skip ?_; try show AWP _ _ _ _ _ _) | (refine AWP.exit ?_; try show AWP _ _ _ _ _ _) | (refine AWP.gdraw X_ok cl28 [0, 1, 4, 5, 6, 7, 8, 9, 10, 11, 12, 19, 20, 101, 102] mix [⟨0, [0], []⟩, ⟨0, [12], []⟩, ⟨0, [104], []⟩, ⟨1, [105, 106], []⟩, ⟨1, [107], [3]⟩, ⟨0, [12], []⟩, ⟨1, [6, 109], []⟩, ⟨1, [110], [6]⟩, ⟨0, [108, 111], [3, 4, 6, 7]⟩, ⟨0, [104], []⟩, ⟨1, [105, 113], [3, 4, 6, 7]⟩, ⟨2, [112, 114], [3, 4, 6, 7, 10]⟩] (by kernel_rfl) (by ((repeat (first | simp only [W, eqq, ↓reduceIte, Nat.reduceEqDiff, Nat.reduceLT, Nat.reduceLeDiff, Nat.reduceAdd, Nat.reduceMul, Nat.reduceSub, Nat.reduceBEq, Int.reduceLE, Int.reduceLT, Int.reduceNeg, Int.reduceToNat, Int.reduceEq, Int.reduceBEq, Int.reduceBNe, Nat.reduceBNe, bne_self_eq_false, reduceCtorEq, gt_iff_lt, ge_iff_le, hl8, hi8, hml, hvl, g1, g2, g3, u32_add, hk1, T.size] | (rewrite [if_pos]; rotate_left; focus (first | omega | (simp only [LN, hl8, hi8, hml, hvl, g1, g2, g3, u32_add, hk1, T.size]; omega) | (refine ⟨?_, ?_⟩ <;> (simp only [LN, hl8, hi8, hml, hvl, g1, g2, g3, u32_add, hk1, T.size] <;> omega)))) | (rewrite [if_neg]; rotate_left; focus (first | omega | (simp only [LN, hl8, hi8, hml, hvl, g1, g2, g3, u32_add, hk1, T.size]; omega) | (refine ⟨?_, ?_⟩ <;> (simp only [LN, hl8, hi8, hml, hvl, g1, g2, g3, u32_add, hk1, T.size] <;> omega)))))); with_reducible rfl)) ?_; try show AWP _ _ _ _ _ _)))
      exact ⟨⟨i + 1, by omega⟩, Weak.to [0, 6, 101] [0, 1] (show okIds 1 [0, 1] by decide) (by simp only [W, eqq, ↓reduceIte, Nat.reduceEqDiff, Nat.reduceLT, Nat.reduceLeDiff, Nat.reduceAdd, Nat.reduceMul, Nat.reduceSub, Nat.reduceBEq, Int.reduceLE, Int.reduceLT, Int.reduceNeg, Int.reduceToNat, Int.reduceEq, Int.reduceBEq, Int.reduceBNe, Nat.reduceBNe, bne_self_eq_false, reduceCtorEq, gt_iff_lt, ge_iff_le]), by simp only; omega⟩
    have ht64 : t < 64 := by omega
    have hk1 : IntKind.i64.wrap ((t : Int) + 1) = ((t + 1 : Nat) : Int) := by rw [wrap_i64 (by omega) (by omega)]; omega
    have hkl : (List.map u32T kS).length = 64 := by simp [kS_len]
    have hwl : (List.map u32T (sch b 64)).length = 64 := by simp [sch_len]
    have hkg : (List.map u32T kS).getD t default = .int .u32 ((kS.getD t 0).toNat : Int) := u32T_getD (by rw [kS_len]; exact ht64)
    have hwg : (List.map u32T (sch b 64)).getD t default = .int .u32 (((sch b 64).getD t 0).toNat : Int) := u32T_getD (by rw [sch_len]; exact ht64)
    have hnx : rnds b s (t + 1) = rnd (rnds b s t) (kS.getD t 0) ((sch b 64).getD t 0) := rfl
    generalize rnds b s t = v at *
    generalize kS.getD t 0 = k at *
    generalize (sch b 64).getD t 0 = w at *
    (repeat (first | refine AWP.seq ?_ | refine AWP.block ?_ | (refine AWP.greg X_ok cl28 [0, 1, 4, 5, 6, 7, 8, 9, 10, 11, 12, 19, 20, 101, 102] (by ((repeat (first | simp only [W, eqq, ↓reduceIte, Nat.reduceEqDiff, Nat.reduceLT, Nat.reduceLeDiff, Nat.reduceAdd, Nat.reduceMul, Nat.reduceSub, Nat.reduceBEq, Int.reduceLE, Int.reduceLT, Int.reduceNeg, Int.reduceToNat, Int.reduceEq, Int.reduceBEq, Int.reduceBNe, Nat.reduceBNe, bne_self_eq_false, reduceCtorEq, gt_iff_lt, ge_iff_le, hlt, a8_eq v, a8, hkl, hwl, hkg, hwg, ht64, hk1, rotc2, rotc6, rotc11, rotc13, rotc22, rotc25, u32_xor, u32_and, u32_add, u32_not, T.size] | (rewrite [if_pos]; rotate_left; focus (first | omega | (simp only [LN, hlt, a8_eq v, a8, hkl, hwl, hkg, hwg, ht64, hk1, rotc2, rotc6, rotc11, rotc13, rotc22, rotc25, u32_xor, u32_and, u32_add, u32_not, T.size]; omega) | (refine ⟨?_, ?_⟩ <;> (simp only [LN, hlt, a8_eq v, a8, hkl, hwl, hkg, hwg, ht64, hk1, rotc2, rotc6, rotc11, rotc13, rotc22, rotc25, u32_xor, u32_and, u32_add, u32_not, T.size] <;> omega)))) | (rewrite [if_neg]; rotate_left; focus (first | omega | (simp only [LN, hlt, a8_eq v, a8, hkl, hwl, hkg, hwg, ht64, hk1, rotc2, rotc6, rotc11, rotc13, rotc22, rotc25, u32_xor, u32_and, u32_add, u32_not, T.size]; omega) | (refine ⟨?_, ?_⟩ <;> (simp only [LN, hlt, a8_eq v, a8, hkl, hwl, hkg, hwg, ht64, hk1, rotc2, rotc6, rotc11, rotc13, rotc22, rotc25, u32_xor, u32_and, u32_add, u32_not, T.size] <;> omega)))))); with_reducible rfl)) ?_; try show AWP _ _ _ _ _ _) | (refine AWP.condT ?_ ?_; focus (simp only [W, eqq, ↓reduceIte, Nat.reduceEqDiff, Nat.reduceLT, Nat.reduceLeDiff, Nat.reduceAdd, Nat.reduceMul, Nat.reduceSub, Nat.reduceBEq, Int.reduceLE, Int.reduceLT, Int.reduceNeg, Int.reduceToNat, Int.reduceEq, Int.reduceBEq, Int.reduceBNe, Nat.reduceBNe, bne_self_eq_false, reduceCtorEq, gt_iff_lt, ge_iff_le, hlt, a8_eq v, a8, hkl, hwl, hkg, hwg, ht64, hk1, rotc2, rotc6, rotc11, rotc13, rotc22, rotc25, u32_xor, u32_and, u32_add, u32_not, T.size]; done)) | (refine AWP.condF ?_ ?_; focus (simp only [W, eqq, ↓reduceIte, Nat.reduceEqDiff, Nat.reduceLT, Nat.reduceLeDiff, Nat.reduceAdd, Nat.reduceMul, Nat.reduceSub, Nat.reduceBEq, Int.reduceLE, Int.reduceLT, Int.reduceNeg, Int.reduceToNat, Int.reduceEq, Int.reduceBEq, Int.reduceBNe, Nat.reduceBNe, bne_self_eq_false, reduceCtorEq, gt_iff_lt, ge_iff_le, hlt, a8_eq v, a8, hkl, hwl, hkg, hwg, ht64, hk1, rotc2, rotc6, rotc11, rotc13, rotc22, rotc25, u32_xor, u32_and, u32_add, u32_not, T.size]; done)) | (refine AWP.skip ?_; try show AWP _ _ _ _ _ _) | (refine AWP.exit ?_; try show AWP _ _ _ _ _ _) | (refine AWP.gdraw X_ok cl28 [0, 1, 4, 5, 6, 7, 8, 9, 10, 11, 12, 19, 20, 101, 102] mix (List.cons (⟨1, [6], []⟩ : Info) <| List.cons (⟨1, [24], [0]⟩ : Info) <| List.cons (⟨0, [8], []⟩ : Info) <| List.cons (⟨1, [26], []⟩ : Info) <| List.cons (⟨0, [8], []⟩ : Info) <| List.cons (⟨1, [28], [3]⟩ : Info) <| List.cons (⟨0, [27, 29], [3, 5]⟩ : Info) <| List.cons (⟨0, [8], []⟩ : Info) <| List.cons (⟨1, [31], [3, 5]⟩ : Info) <| List.cons (⟨0, [30, 32], [3, 5, 8]⟩ : Info) <| List.cons (⟨0, [25, 33], [0, 1, 3, 5, 8]⟩ : Info) <| List.cons (⟨0, [8], []⟩ : Info) <| List.cons (⟨1, [6], []⟩ : Info) <| List.cons (⟨1, [36], [12]⟩ : Info) <| List.cons (⟨0, [35, 37], [12, 13]⟩ : Info) <| List.cons (⟨0, [8], []⟩ : Info) <| List.cons (⟨0, [39], []⟩ : Info) <| List.cons (⟨1, [6], []⟩ : Info) <| List.cons (⟨1, [41], [17]⟩ : Info) <| List.cons (⟨0, [40, 42], [17, 18]⟩ : Info) <| List.cons (⟨0, [38, 43], [12, 13, 17, 18]⟩ : Info) <| List.cons (⟨0, [34, 44], [0, 1, 3, 5, 8, 12, 13, 17, 18]⟩ : Info) <| List.cons (⟨0, [7], []⟩ : Info) <| List.cons (⟨1, [5, 46], []⟩ : Info) <| List.cons (⟨1, [47], [23]⟩ : Info) <| List.cons (⟨0, [45, 48], [0, 1, 3, 5, 8, 12, 13, 17, 18, 23, 24]⟩ : Info) <| List.cons (⟨0, [7], []⟩ : Info) <| List.cons (⟨1, [4, 50], []⟩ : Info) <| List.cons (⟨1, [51], [27]⟩ : Info) <| List.cons (⟨0, [49, 52], [0, 1, 3, 5, 8, 12, 13, 17, 18, 23, 24, 27, 28]⟩ : Info) <| List.cons (⟨0, [53], [0, 1, 3, 5, 8, 12, 13, 17, 18, 23, 24, 27, 28]⟩ : Info) <| []) (by kernel_rfl) (by ((repeat (first | simp only [W, eqq, ↓reduceIte, Nat.reduceEqDiff, Nat.reduceLT, Nat.reduceLeDiff, Nat.reduceAdd, Nat.reduceMul, Nat.reduceSub, Nat.reduceBEq, Int.reduceLE, Int.reduceLT, Int.reduceNeg, Int.reduceToNat, Int.reduceEq, Int.reduceBEq, Int.reduceBNe, Nat.reduceBNe, bne_self_eq_false, reduceCtorEq, gt_iff_lt, ge_iff_le, hlt, a8_eq v, a8, hkl, hwl, hkg, hwg, ht64, hk1, rotc2, rotc6, rotc11, rotc13, rotc22, rotc25, u32_xor, u32_and, u32_add, u32_not, T.size] | (rewrite [if_pos]; rotate_left; focus (first | omega | (simp only [LN, hlt, a8_eq v, a8, hkl, hwl, hkg, hwg, ht64, hk1, rotc2, rotc6, rotc11, rotc13, rotc22, rotc25, u32_xor, u32_and, u32_add, u32_not, T.size]; omega) | (refine ⟨?_, ?_⟩ <;> (simp only [LN, hlt, a8_eq v, a8, hkl, hwl, hkg, hwg, ht64, hk1, rotc2, rotc6, rotc11, rotc13, rotc22, rotc25, u32_xor, u32_and, u32_add, u32_not, T.size] <;> omega)))) | (rewrite [if_neg]; rotate_left; focus (first | omega | (simp only [LN, hlt, a8_eq v, a8, hkl, hwl, hkg, hwg, ht64, hk1, rotc2, rotc6, rotc11, rotc13, rotc22, rotc25, u32_xor, u32_and, u32_add, u32_not, T.size]; omega) | (refine ⟨?_, ?_⟩ <;> (simp only [LN, hlt, a8_eq v, a8, hkl, hwl, hkg, hwg, ht64, hk1, rotc2, rotc6, rotc11, rotc13, rotc22, rotc25, u32_xor, u32_and, u32_add, u32_not, T.size] <;> omega)))))); with_reducible rfl)) ?_; try show AWP _ _ _ _ _ _) | (refine AWP.gdraw X_ok cl28 [0, 1, 4, 5, 6, 7, 8, 9, 10, 11, 12, 19, 20, 101, 102] mix [⟨0, [10], []⟩, ⟨1, [56], []⟩, ⟨0, [10], []⟩, ⟨1, [58], [1]⟩, ⟨0, [57, 59], [1, 3]⟩, ⟨0, [10], []⟩, ⟨1, [61], [1, 3]⟩, ⟨0, [60, 62], [1, 3, 6]⟩, ⟨0, [10], []⟩, ⟨1, [6], []⟩, ⟨1, [65], [9]⟩, ⟨0, [64, 66], [9, 10]⟩, ⟨0, [10], []⟩, ⟨1, [6], []⟩, ⟨1, [69], [13]⟩, ⟨0, [68, 70], [13, 14]⟩, ⟨0, [67, 71], [9, 10, 13, 14]⟩, ⟨1, [6], []⟩, ⟨1, [73], [17]⟩, ⟨1, [6], []⟩, ⟨1, [75], [19]⟩, ⟨0, [74, 76], [17, 18, 19, 20]⟩, ⟨0, [72, 77], [9, 10, 13, 14, 17, 18, 19, 20]⟩, ⟨0, [63, 78], [1, 3, 6, 9, 10, 13, 14, 17, 18, 19, 20]⟩, ⟨0, [79], [1, 3, 6, 9, 10, 13, 14, 17, 18, 19, 20]⟩] (by kernel_rfl) (by ((repeat (first | simp only [W, eqq, ↓reduceIte, Nat.reduceEqDiff, Nat.reduceLT, Nat.reduceLeDiff, Nat.reduceAdd, Nat.reduceMul, Nat.reduceSub, Nat.reduceBEq, Int.reduceLE, Int.reduceLT, Int.reduceNeg, Int.reduceToNat, Int.reduceEq, Int.reduceBEq, Int.reduceBNe, Nat.reduceBNe, bne_self_eq_false, reduceCtorEq, gt_iff_lt, ge_iff_le, hlt, a8_eq v, a8, hkl, hwl, hkg, hwg, ht64, hk1, rotc2, rotc6, rotc11, rotc13, rotc22, rotc25, u32_xor, u32_and, u32_add, u32_not, T.size] | (rewrite [if_pos]; rotate_left; focus (first | omega | (simp only [LN, hlt, a8_eq v, a8, hkl, hwl, hkg, hwg, ht64, hk1, rotc2, rotc6, rotc11, rotc13, rotc22, rotc25, u32_xor, u32_and, u32_add, u32_not, T.size]; omega) | (refine ⟨?_, ?_⟩ <;> (simp only [LN, hlt, a8_eq v, a8, hkl, hwl, hkg, hwg, ht64, hk1, rotc2, rotc6, rotc11, rotc13, rotc22, rotc25, u32_xor, u32_and, u32_add, u32_not, T.size] <;> omega)))) | (rewrite [if_neg]; rotate_left; focus (first | omega | (simp only [LN, hlt, a8_eq v, a8, hkl, hwl, hkg, hwg, ht64, hk1, rotc2, rotc6, rotc11, rotc13, rotc22, rotc25, u32_xor, u32_and, u32_add, u32_not, T.size]; omega) | (refine ⟨?_, ?_⟩ <;> (simp only [LN, hlt, a8_eq v, a8, hkl, hwl, hkg, hwg, ht64, hk1, rotc2, rotc6, rotc11, rotc13, rotc22, rotc25, u32_xor, u32_and, u32_add, u32_not, T.size] <;> omega)))))); with_reducible rfl)) ?_; try show AWP _ _ _ _ _ _)))
    exact ⟨⟨t + 1, by omega⟩, Weak.to [0, 4, 5, 6, 19] [0, 1, 2, 3] (show okIds 1 [0, 1, 2, 3] by decide) (by simp only [W, eqq, ↓reduceIte, Nat.reduceEqDiff, Nat.reduceLT, Nat.reduceLeDiff, Nat.reduceAdd, Nat.reduceMul, Nat.reduceSub, Nat.reduceBEq, Int.reduceLE, Int.reduceLT, Int.reduceNeg, Int.reduceToNat, Int.reduceEq, Int.reduceBEq, Int.reduceBNe, Nat.reduceBNe, bne_self_eq_false, reduceCtorEq, gt_iff_lt, ge_iff_le, hnx, rnd, t1S, t2S, S8.l, u32T]), by simp only; omega⟩

end Go.Fw

end

section
/- Chapter 7: New, Write, Len. -/
namespace Go.Fw
open Go Go.Proofs
set_option linter.unusedVariables false
set_option linter.unusedSimpArgs false

/-- A hash that goes on. -/
abbrev hB (s : S8) (r : List UInt8) (n : Nat) : Blk := .bx (.t (.st [.ar 8 1 (s.l.map u32T), .by r, .int .u64 (n : Int)]))

def F14 : Fun
  | [] => some ([.bx (.t (.st [.ar 8 1 (hS.map u32T), .by [], .int .u64 0]))], .ptr 0 0 [])
  | _ => none

theorem cl14 : GClOk Try.prog [(27, ⟨[], treeG F27⟩)] := .cons c27.g (.nil _)

theorem c14 : ACon Try.prog 14 F14 := by
  refine aconc E_ok (rs := [.tmp 0 29]) Try.func14 rfl Try.ntmps14 (by kernel_rfl) rfl (by decide) F14 (np := 0) ?_ ?_
  · intro ts h; unfold F14; split <;> first | rfl | (simp at h; done)
  intro ts H r hF hwf
  unfold F14 at hF
  split at hF <;> try (cases hF; done)
  cases hF
  (repeat (first | refine AWP.seq ?_ | refine AWP.block ?_ | (refine AWP.greg X_ok cl14 [0] (by ((repeat (first | simp only [W, eqq, ↓reduceIte, Nat.reduceEqDiff, Nat.reduceLT, Nat.reduceLeDiff, Nat.reduceAdd, Nat.reduceMul, Nat.reduceSub, Nat.reduceBEq, Int.reduceLE, Int.reduceLT, Int.reduceNeg, Int.reduceToNat, Int.reduceEq, Int.reduceBEq, Int.reduceBNe, Nat.reduceBNe, bne_self_eq_false, reduceCtorEq, gt_iff_lt, ge_iff_le, F27] | (rewrite [if_pos]; rotate_left; focus (first | omega | (simp only [LN, F27]; omega) | (refine ⟨?_, ?_⟩ <;> (simp only [LN, F27] <;> omega)))) | (rewrite [if_neg]; rotate_left; focus (first | omega | (simp only [LN, F27]; omega) | (refine ⟨?_, ?_⟩ <;> (simp only [LN, F27] <;> omega)))))); with_reducible rfl)) ?_; try show AWP _ _ _ _ _ _) | (refine AWP.condT ?_ ?_; focus (simp only [W, eqq, ↓reduceIte, Nat.reduceEqDiff, Nat.reduceLT, Nat.reduceLeDiff, Nat.reduceAdd, Nat.reduceMul, Nat.reduceSub, Nat.reduceBEq, Int.reduceLE, Int.reduceLT, Int.reduceNeg, Int.reduceToNat, Int.reduceEq, Int.reduceBEq, Int.reduceBNe, Nat.reduceBNe, bne_self_eq_false, reduceCtorEq, gt_iff_lt, ge_iff_le, F27]; done)) | (refine AWP.condF ?_ ?_; focus (simp only [W, eqq, ↓reduceIte, Nat.reduceEqDiff, Nat.reduceLT, Nat.reduceLeDiff, Nat.reduceAdd, Nat.reduceMul, Nat.reduceSub, Nat.reduceBEq, Int.reduceLE, Int.reduceLT, Int.reduceNeg, Int.reduceToNat, Int.reduceEq, Int.reduceBEq, Int.reduceBNe, Nat.reduceBNe, bne_self_eq_false, reduceCtorEq, gt_iff_lt, ge_iff_le, F27]; done)) | (refine AWP.skip ?_; try show AWP _ _ _ _ _ _) | (refine AWP.exit ?_; try show AWP _ _ _ _ _ _)))
  refine AWP.weak (Weak.tyd E 0 48 rfl) ?_
  refine AWP.ret ?_; show cretQ _ _ _ _ _ _ _; exact ⟨.inr rfl, [], [0], (show okIds 0 [0] by decide), by simp only [cres, resVals, RS.val, thawV, freezeOnes, freezeOne, renH, one, AV.ren, AV.renL, Blk.ren, W, eqq, ↓reduceIte, Nat.reduceEqDiff, Nat.reduceLT, Nat.reduceLeDiff, Nat.reduceAdd, Nat.reduceMul, Nat.reduceSub, Nat.reduceBEq, Int.reduceLE, Int.reduceLT, Int.reduceNeg, Int.reduceToNat, Int.reduceEq, Int.reduceBEq, Int.reduceBNe, Nat.reduceBNe, bne_self_eq_false, reduceCtorEq, gt_iff_lt, ge_iff_le]⟩

def G17 : GFun
  | [], [.t .nilp] => some ([], .t (.int .u64 0))
  | [.bx (.t (.st [.ar 8 1 xs, .by r, .int .u64 n]))], [.ptr 0 0 []] => some ([.bx (.t (.st [.ar 8 1 xs, .by r, .int .u64 n]))], .t (.int .u64 n))
  | _, _ => none

theorem cl17 : GClOk Try.prog [] := GClOk.nil _

theorem g17 : GCon Try.prog 17 G17 := by
  refine gconc E_ok (rs := [.tmp 2 33]) Try.func17 rfl Try.ntmps17 (by kernel_rfl) rfl (by decide) G17 (np := 1) ?_ ?_
  · intro HB xs h; unfold G17; split <;> first | rfl | (simp at h; done)
  intro HB xs H r hG hwf hex
  unfold G17 at hG
  split at hG <;> try (cases hG; done)
  · cases hG
    (repeat (first | refine AWP.seq ?_ | refine AWP.block ?_ | (refine AWP.greg X_ok cl17 [0, 2, 4] (by ((repeat (first | simp only [W, eqq, ↓reduceIte, Nat.reduceEqDiff, Nat.reduceLT, Nat.reduceLeDiff, Nat.reduceAdd, Nat.reduceMul, Nat.reduceSub, Nat.reduceBEq, Int.reduceLE, Int.reduceLT, Int.reduceNeg, Int.reduceToNat, Int.reduceEq, Int.reduceBEq, Int.reduceBNe, Nat.reduceBNe, bne_self_eq_false, reduceCtorEq, gt_iff_lt, ge_iff_le, gentry] | (rewrite [if_pos]; rotate_left; focus (first | omega | (simp only [LN, gentry]; omega) | (refine ⟨?_, ?_⟩ <;> (simp only [LN, gentry] <;> omega)))) | (rewrite [if_neg]; rotate_left; focus (first | omega | (simp only [LN, gentry]; omega) | (refine ⟨?_, ?_⟩ <;> (simp only [LN, gentry] <;> omega)))))); with_reducible rfl)) ?_; try show AWP _ _ _ _ _ _) | (refine AWP.condT ?_ ?_; focus (simp only [W, eqq, ↓reduceIte, Nat.reduceEqDiff, Nat.reduceLT, Nat.reduceLeDiff, Nat.reduceAdd, Nat.reduceMul, Nat.reduceSub, Nat.reduceBEq, Int.reduceLE, Int.reduceLT, Int.reduceNeg, Int.reduceToNat, Int.reduceEq, Int.reduceBEq, Int.reduceBNe, Nat.reduceBNe, bne_self_eq_false, reduceCtorEq, gt_iff_lt, ge_iff_le, gentry]; done)) | (refine AWP.condF ?_ ?_; focus (simp only [W, eqq, ↓reduceIte, Nat.reduceEqDiff, Nat.reduceLT, Nat.reduceLeDiff, Nat.reduceAdd, Nat.reduceMul, Nat.reduceSub, Nat.reduceBEq, Int.reduceLE, Int.reduceLT, Int.reduceNeg, Int.reduceToNat, Int.reduceEq, Int.reduceBEq, Int.reduceBNe, Nat.reduceBNe, bne_self_eq_false, reduceCtorEq, gt_iff_lt, ge_iff_le, gentry]; done)) | (refine AWP.skip ?_; try show AWP _ _ _ _ _ _) | (refine AWP.exit ?_; try show AWP _ _ _ _ _ _)))
    refine AWP.ret ?_; show cretQ _ _ _ _ _ _ _; exact ⟨.inr rfl, [], [], (by decide), by simp only [cres, resVals, RS.val, thawV, freezeOnes, freezeOne, renH, one, AV.ren, AV.renL, Blk.ren, W, eqq, ↓reduceIte, Nat.reduceEqDiff, Nat.reduceLT, Nat.reduceLeDiff, Nat.reduceAdd, Nat.reduceMul, Nat.reduceSub, Nat.reduceBEq, Int.reduceLE, Int.reduceLT, Int.reduceNeg, Int.reduceToNat, Int.reduceEq, Int.reduceBEq, Int.reduceBNe, Nat.reduceBNe, bne_self_eq_false, reduceCtorEq, gt_iff_lt, ge_iff_le]⟩
  · rename_i xs r n
    cases hG
    (repeat (first | refine AWP.seq ?_ | refine AWP.block ?_ | (refine AWP.greg X_ok cl17 [0, 2, 4] (by ((repeat (first | simp only [W, eqq, ↓reduceIte, Nat.reduceEqDiff, Nat.reduceLT, Nat.reduceLeDiff, Nat.reduceAdd, Nat.reduceMul, Nat.reduceSub, Nat.reduceBEq, Int.reduceLE, Int.reduceLT, Int.reduceNeg, Int.reduceToNat, Int.reduceEq, Int.reduceBEq, Int.reduceBNe, Nat.reduceBNe, bne_self_eq_false, reduceCtorEq, gt_iff_lt, ge_iff_le, gentry] | (rewrite [if_pos]; rotate_left; focus (first | omega | (simp only [LN, gentry]; omega) | (refine ⟨?_, ?_⟩ <;> (simp only [LN, gentry] <;> omega)))) | (rewrite [if_neg]; rotate_left; focus (first | omega | (simp only [LN, gentry]; omega) | (refine ⟨?_, ?_⟩ <;> (simp only [LN, gentry] <;> omega)))))); with_reducible rfl)) ?_; try show AWP _ _ _ _ _ _) | (refine AWP.condT ?_ ?_; focus (simp only [W, eqq, ↓reduceIte, Nat.reduceEqDiff, Nat.reduceLT, Nat.reduceLeDiff, Nat.reduceAdd, Nat.reduceMul, Nat.reduceSub, Nat.reduceBEq, Int.reduceLE, Int.reduceLT, Int.reduceNeg, Int.reduceToNat, Int.reduceEq, Int.reduceBEq, Int.reduceBNe, Nat.reduceBNe, bne_self_eq_false, reduceCtorEq, gt_iff_lt, ge_iff_le, gentry]; done)) | (refine AWP.condF ?_ ?_; focus (simp only [W, eqq, ↓reduceIte, Nat.reduceEqDiff, Nat.reduceLT, Nat.reduceLeDiff, Nat.reduceAdd, Nat.reduceMul, Nat.reduceSub, Nat.reduceBEq, Int.reduceLE, Int.reduceLT, Int.reduceNeg, Int.reduceToNat, Int.reduceEq, Int.reduceBEq, Int.reduceBNe, Nat.reduceBNe, bne_self_eq_false, reduceCtorEq, gt_iff_lt, ge_iff_le, gentry]; done)) | (refine AWP.skip ?_; try show AWP _ _ _ _ _ _) | (refine AWP.exit ?_; try show AWP _ _ _ _ _ _)))
    refine AWP.ret ?_; show cretQ _ _ _ _ _ _ _; exact ⟨.inr rfl, [], [0], (show okIds 1 [0] by decide), by simp only [cres, resVals, RS.val, thawV, freezeOnes, freezeOne, renH, one, AV.ren, AV.renL, Blk.ren, W, eqq, ↓reduceIte, Nat.reduceEqDiff, Nat.reduceLT, Nat.reduceLeDiff, Nat.reduceAdd, Nat.reduceMul, Nat.reduceSub, Nat.reduceBEq, Int.reduceLE, Int.reduceLT, Int.reduceNeg, Int.reduceToNat, Int.reduceEq, Int.reduceBEq, Int.reduceBNe, Nat.reduceBNe, bne_self_eq_false, reduceCtorEq, gt_iff_lt, ge_iff_le]⟩

/-- The eight numbers behind so many blocks of some bytes. -/
def eatS (s : S8) (l : List UInt8) : Nat → S8
  | 0 => s
  | k + 1 => blkS (eatS s l k) ((l.drop (64 * k)).take 64)

theorem take_c1 (s : S8) {b : List UInt8} (h : b.length = 64) : G28 [.bx (.t (.ar 8 1 (s.l.map u32T)))] [.ptr 0 0 [], .t (.by b)] = some ([.bx (.t (.ar 8 1 ((blkS s b).l.map u32T)))], .tup []) := by
  simp only [G28, asS8_map]; rw [if_pos h]
theorem take_c2 (s : S8) (r : List UInt8) (n : Int) {b : List UInt8} (h : b.length = 64) : G28 [.bx (.t (.st [.ar 8 1 (s.l.map u32T), .by r, .int .u64 n]))] [.ptr 0 0 [0], .t (.by b)] = some ([.bx (.t (.st [.ar 8 1 ((blkS s b).l.map u32T), .by r, .int .u64 n]))], .tup []) := by
  simp only [G28, asS8_map]; rw [if_pos h]

noncomputable def G15 : GFun
  | [], [.t .nilp, .t (.by b)] => some ([], .tup [])
  | [.bx (.t (.st [.ar 8 1 xs, .by r, .int .u64 n]))], [.ptr 0 0 [], .t (.by b)] => match asS8 xs with
    | some s => if 0 ≤ n ∧ n ≤ 1000000000000 ∧ r.length ≤ 64 ∧ b.length ≤ 1000000000 then
        some ([.bx (.t (.st [.ar 8 1 ((eatS s (r ++ b) ((r ++ b).length / 64)).l.map u32T), .by ((r ++ b).drop (64 * ((r ++ b).length / 64))), .int .u64 (n + b.length)]))], .tup []) else none
    | none => none
  | _, _ => none

theorem cl15 : GClOk Try.prog [(28, ⟨[true, false], G28⟩)] := .cons g28 (.nil _)


set_option maxHeartbeats 1000000 in
theorem g15 : GCon Try.prog 15 G15 := by
  refine gconc E_ok (rs := []) Try.func15 rfl Try.ntmps15 (by kernel_rfl) rfl (by decide) G15 (np := 2) ?_ ?_
  · intro HB xs h; unfold G15; split <;> first | rfl | (simp at h; done)
  intro HB xs H r hG hwf hex
  unfold G15 at hG
  split at hG <;> try (cases hG; done)
  · cases hG
    (repeat (first | refine AWP.seq ?_ | refine AWP.block ?_ | (refine AWP.greg X_ok cl15 [0, 1, 5, 41] (by ((repeat (first | simp only [W, eqq, ↓reduceIte, Nat.reduceEqDiff, Nat.reduceLT, Nat.reduceLeDiff, Nat.reduceAdd, Nat.reduceMul, Nat.reduceSub, Nat.reduceBEq, Int.reduceLE, Int.reduceLT, Int.reduceNeg, Int.reduceToNat, Int.reduceEq, Int.reduceBEq, Int.reduceBNe, Nat.reduceBNe, bne_self_eq_false, reduceCtorEq, gt_iff_lt, ge_iff_le, gentry] | (rewrite [if_pos]; rotate_left; focus (first | omega | (simp only [LN, gentry]; omega) | (refine ⟨?_, ?_⟩ <;> (simp only [LN, gentry] <;> omega)))) | (rewrite [if_neg]; rotate_left; focus (first | omega | (simp only [LN, gentry]; omega) | (refine ⟨?_, ?_⟩ <;> (simp only [LN, gentry] <;> omega)))))); with_reducible rfl)) ?_; try show AWP _ _ _ _ _ _) | (refine AWP.condT ?_ ?_; focus (simp only [W, eqq, ↓reduceIte, Nat.reduceEqDiff, Nat.reduceLT, Nat.reduceLeDiff, Nat.reduceAdd, Nat.reduceMul, Nat.reduceSub, Nat.reduceBEq, Int.reduceLE, Int.reduceLT, Int.reduceNeg, Int.reduceToNat, Int.reduceEq, Int.reduceBEq, Int.reduceBNe, Nat.reduceBNe, bne_self_eq_false, reduceCtorEq, gt_iff_lt, ge_iff_le, gentry]; done)) | (refine AWP.condF ?_ ?_; focus (simp only [W, eqq, ↓reduceIte, Nat.reduceEqDiff, Nat.reduceLT, Nat.reduceLeDiff, Nat.reduceAdd, Nat.reduceMul, Nat.reduceSub, Nat.reduceBEq, Int.reduceLE, Int.reduceLT, Int.reduceNeg, Int.reduceToNat, Int.reduceEq, Int.reduceBEq, Int.reduceBNe, Nat.reduceBNe, bne_self_eq_false, reduceCtorEq, gt_iff_lt, ge_iff_le, gentry]; done)) | (refine AWP.skip ?_; try show AWP _ _ _ _ _ _) | (refine AWP.exit ?_; try show AWP _ _ _ _ _ _)))
    refine AWP.ret ?_; show cretQ _ _ _ _ _ _ _; exact ⟨.inr rfl, [], [], (by decide), by simp only [cres, resVals, RS.val, thawV, freezeOnes, freezeOne, renH, one, AV.ren, AV.renL, Blk.ren, W, eqq, ↓reduceIte, Nat.reduceEqDiff, Nat.reduceLT, Nat.reduceLeDiff, Nat.reduceAdd, Nat.reduceMul, Nat.reduceSub, Nat.reduceBEq, Int.reduceLE, Int.reduceLT, Int.reduceNeg, Int.reduceToNat, Int.reduceEq, Int.reduceBEq, Int.reduceBNe, Nat.reduceBNe, bne_self_eq_false, reduceCtorEq, gt_iff_lt, ge_iff_le]⟩
  · rename_i xs r n b
    split at hG
    case h_2 => cases hG
    rename_i s hs
    split at hG
    case isFalse => cases hG
    rename_i hc
    obtain ⟨hn0, hn1, hr, hb⟩ := hc
    cases hG
    obtain rfl := asS8_inv hs
    have hw1 : IntKind.u64.wrap (b.length : Int) = (b.length : Int) := wrap_u64 (by omega) (by omega)
    have hw2 : IntKind.u64.wrap (n + (b.length : Int)) = n + (b.length : Int) := wrap_u64 (by omega) (by omega)
    have hr1 : r.length ≤ r.length := Nat.le_refl _
    (repeat (first | refine AWP.seq ?_ | refine AWP.block ?_ | (refine AWP.greg X_ok cl15 [0, 1, 5, 41] (by ((repeat (first | simp only [W, eqq, ↓reduceIte, Nat.reduceEqDiff, Nat.reduceLT, Nat.reduceLeDiff, Nat.reduceAdd, Nat.reduceMul, Nat.reduceSub, Nat.reduceBEq, Int.reduceLE, Int.reduceLT, Int.reduceNeg, Int.reduceToNat, Int.reduceEq, Int.reduceBEq, Int.reduceBNe, Nat.reduceBNe, bne_self_eq_false, reduceCtorEq, gt_iff_lt, ge_iff_le, gentry, hw1, hw2, hr, hb] | (rewrite [if_pos]; rotate_left; focus (first | omega | (simp only [LN, gentry, hw1, hw2, hr, hb]; omega) | (refine ⟨?_, ?_⟩ <;> (simp only [LN, gentry, hw1, hw2, hr, hb] <;> omega)))) | (rewrite [if_neg]; rotate_left; focus (first | omega | (simp only [LN, gentry, hw1, hw2, hr, hb]; omega) | (refine ⟨?_, ?_⟩ <;> (simp only [LN, gentry, hw1, hw2, hr, hb] <;> omega)))))); with_reducible rfl)) ?_; try show AWP _ _ _ _ _ _) | (refine AWP.condT ?_ ?_; focus (simp only [W, eqq, ↓reduceIte, Nat.reduceEqDiff, Nat.reduceLT, Nat.reduceLeDiff, Nat.reduceAdd, Nat.reduceMul, Nat.reduceSub, Nat.reduceBEq, Int.reduceLE, Int.reduceLT, Int.reduceNeg, Int.reduceToNat, Int.reduceEq, Int.reduceBEq, Int.reduceBNe, Nat.reduceBNe, bne_self_eq_false, reduceCtorEq, gt_iff_lt, ge_iff_le, gentry, hw1, hw2, hr, hb]; done)) | (refine AWP.condF ?_ ?_; focus (simp only [W, eqq, ↓reduceIte, Nat.reduceEqDiff, Nat.reduceLT, Nat.reduceLeDiff, Nat.reduceAdd, Nat.reduceMul, Nat.reduceSub, Nat.reduceBEq, Int.reduceLE, Int.reduceLT, Int.reduceNeg, Int.reduceToNat, Int.reduceEq, Int.reduceBEq, Int.reduceBNe, Nat.reduceBNe, bne_self_eq_false, reduceCtorEq, gt_iff_lt, ge_iff_le, gentry, hw1, hw2, hr, hb]; done)) | (refine AWP.skip ?_; try show AWP _ _ _ _ _ _) | (refine AWP.exit ?_; try show AWP _ _ _ _ _ _) | (refine AWP.gdraw X_ok cl15 [0, 1, 5, 41] mix [⟨0, [0], []⟩, ⟨0, [0], []⟩, ⟨0, [17], []⟩, ⟨0, [18], []⟩, ⟨1, [19], []⟩, ⟨0, [0], []⟩, ⟨0, [21], []⟩, ⟨0, [22], []⟩, ⟨1, [23], []⟩, ⟨1, [24], [8]⟩, ⟨0, [0], []⟩, ⟨0, [26], []⟩, ⟨0, [27], []⟩, ⟨1, [28], []⟩, ⟨1, [29], [13]⟩, ⟨1, [20, 25, 30], [4, 8, 9, 13, 14]⟩, ⟨0, [1], []⟩, ⟨2, [31, 32], [4, 8, 9, 13, 14, 15]⟩, ⟨0, [16], [4, 8, 9, 13, 14, 15, 17]⟩, ⟨0, [34], [4, 8, 9, 13, 14, 15, 17]⟩, ⟨2, [33, 35], [4, 8, 9, 13, 14, 15, 17]⟩] (by kernel_rfl) (by ((repeat (first | simp only [W, eqq, ↓reduceIte, Nat.reduceEqDiff, Nat.reduceLT, Nat.reduceLeDiff, Nat.reduceAdd, Nat.reduceMul, Nat.reduceSub, Nat.reduceBEq, Int.reduceLE, Int.reduceLT, Int.reduceNeg, Int.reduceToNat, Int.reduceEq, Int.reduceBEq, Int.reduceBNe, Nat.reduceBNe, bne_self_eq_false, reduceCtorEq, gt_iff_lt, ge_iff_le, gentry, hw1, hw2, hr, hb] | (rewrite [if_pos]; rotate_left; focus (first | omega | (simp only [LN, gentry, hw1, hw2, hr, hb]; omega) | (refine ⟨?_, ?_⟩ <;> (simp only [LN, gentry, hw1, hw2, hr, hb] <;> omega)))) | (rewrite [if_neg]; rotate_left; focus (first | omega | (simp only [LN, gentry, hw1, hw2, hr, hb]; omega) | (refine ⟨?_, ?_⟩ <;> (simp only [LN, gentry, hw1, hw2, hr, hb] <;> omega)))))); with_reducible rfl)) ?_; try show AWP _ _ _ _ _ _)))
    obtain ⟨N, hN⟩ : ∃ N, n + (b.length : Int) = N := ⟨_, rfl⟩
    rw [hN]
    have hrl : (r ++ b).length ≤ 2000000000 := by simp; omega
    obtain ⟨l, hl⟩ : ∃ l, r ++ b = l := ⟨_, rfl⟩
    rw [hl] at hrl ⊢
    refine AWP.loop (G := { k : Nat // 64 * k ≤ l.length }) (fun k => ⟨[(0, .ptr 0 0 [])], [.bx (.t (.st [.ar 8 1 ((eatS s l k.1).l.map u32T), .by (l.drop (64 * k.1)), .int .u64 N]))]⟩) (fun k => l.length - 64 * k.1) ⟨0, by omega⟩ (Weak.to [0] [0] (show okIds 1 [0] by decide) (by simp only [W, eqq, ↓reduceIte, Nat.reduceEqDiff, Nat.reduceLT, Nat.reduceLeDiff, Nat.reduceAdd, Nat.reduceMul, Nat.reduceSub, Nat.reduceBEq, Int.reduceLE, Int.reduceLT, Int.reduceNeg, Int.reduceToNat, Int.reduceEq, Int.reduceBEq, Int.reduceBNe, Nat.reduceBNe, bne_self_eq_false, reduceCtorEq, gt_iff_lt, ge_iff_le, eatS, Nat.mul_zero])) ?_
    intro ⟨k, hk⟩
    dsimp only
    have hdl : (l.drop (64 * k)).length = l.length - 64 * k := by simp
    have hnx : eatS s l (k + 1) = blkS (eatS s l k) ((l.drop (64 * k)).take 64) := rfl
    obtain ⟨v, hv⟩ : ∃ v, eatS s l k = v := ⟨_, rfl⟩
    rw [hv] at hnx ⊢
    have hdd : (l.drop (64 * k)).drop 64 = l.drop (64 * (k + 1)) := by rw [List.drop_drop]; congr 1
    obtain ⟨d, hd⟩ : ∃ d, l.drop (64 * k) = d := ⟨_, rfl⟩
    rw [hd] at hdd hdl hnx ⊢
    by_cases h64 : 64 ≤ (d.length : Int)
    · have h64' : 64 ≤ d.length := by omega
      have htl : (d.take 64).length = 64 := by simp; omega
      have htk := take_c2 v d N htl
      (repeat (first | refine AWP.seq ?_ | refine AWP.block ?_ | (refine AWP.greg X_ok cl15 [0, 1, 5, 41] (by ((repeat (first | simp only [W, eqq, ↓reduceIte, Nat.reduceEqDiff, Nat.reduceLT, Nat.reduceLeDiff, Nat.reduceAdd, Nat.reduceMul, Nat.reduceSub, Nat.reduceBEq, Int.reduceLE, Int.reduceLT, Int.reduceNeg, Int.reduceToNat, Int.reduceEq, Int.reduceBEq, Int.reduceBNe, Nat.reduceBNe, bne_self_eq_false, reduceCtorEq, gt_iff_lt, ge_iff_le, h64, h64', hdd, htk] | (rewrite [if_pos]; rotate_left; focus (first | omega | (simp only [LN, h64, h64', hdd, htk]; omega) | (refine ⟨?_, ?_⟩ <;> (simp only [LN, h64, h64', hdd, htk] <;> omega)))) | (rewrite [if_neg]; rotate_left; focus (first | omega | (simp only [LN, h64, h64', hdd, htk]; omega) | (refine ⟨?_, ?_⟩ <;> (simp only [LN, h64, h64', hdd, htk] <;> omega)))))); with_reducible rfl)) ?_; try show AWP _ _ _ _ _ _) | (refine AWP.condT ?_ ?_; focus (simp only [W, eqq, ↓reduceIte, Nat.reduceEqDiff, Nat.reduceLT, Nat.reduceLeDiff, Nat.reduceAdd, Nat.reduceMul, Nat.reduceSub, Nat.reduceBEq, Int.reduceLE, Int.reduceLT, Int.reduceNeg, Int.reduceToNat, Int.reduceEq, Int.reduceBEq, Int.reduceBNe, Nat.reduceBNe, bne_self_eq_false, reduceCtorEq, gt_iff_lt, ge_iff_le, h64, h64', hdd, htk]; done)) | (refine AWP.condF ?_ ?_; focus (simp only [W, eqq, ↓reduceIte, Nat.reduceEqDiff, Nat.reduceLT, Nat.reduceLeDiff, Nat.reduceAdd, Nat.reduceMul, Nat.reduceSub, Nat.reduceBEq, Int.reduceLE, Int.reduceLT, Int.reduceNeg, Int.reduceToNat, Int.reduceEq, Int.reduceBEq, Int.reduceBNe, Nat.reduceBNe, bne_self_eq_false, reduceCtorEq, gt_iff_lt, ge_iff_le, h64, h64', hdd, htk]; done)) | (refine AWP.skip ?_; try show AWP _ _ _ _ _ _) | (refine AWP.exit ?_; try show AWP _ _ _ _ _ _) | (refine AWP.gdraw X_ok cl15 [0, 1, 5, 41] mix [⟨0, [0], []⟩, ⟨0, [42], []⟩, ⟨0, [43], []⟩, ⟨0, [0], []⟩, ⟨0, [45], []⟩, ⟨0, [46], []⟩, ⟨1, [47], []⟩, ⟨1, [48], [6]⟩, ⟨2, [44, 49], [6, 7]⟩] (by kernel_rfl) (by ((repeat (first | simp only [W, eqq, ↓reduceIte, Nat.reduceEqDiff, Nat.reduceLT, Nat.reduceLeDiff, Nat.reduceAdd, Nat.reduceMul, Nat.reduceSub, Nat.reduceBEq, Int.reduceLE, Int.reduceLT, Int.reduceNeg, Int.reduceToNat, Int.reduceEq, Int.reduceBEq, Int.reduceBNe, Nat.reduceBNe, bne_self_eq_false, reduceCtorEq, gt_iff_lt, ge_iff_le, h64, h64', hdd, htk] | (rewrite [if_pos]; rotate_left; focus (first | omega | (simp only [LN, h64, h64', hdd, htk]; omega) | (refine ⟨?_, ?_⟩ <;> (simp only [LN, h64, h64', hdd, htk] <;> omega)))) | (rewrite [if_neg]; rotate_left; focus (first | omega | (simp only [LN, h64, h64', hdd, htk]; omega) | (refine ⟨?_, ?_⟩ <;> (simp only [LN, h64, h64', hdd, htk] <;> omega)))))); with_reducible rfl)) ?_; try show AWP _ _ _ _ _ _)))
      exact ⟨⟨k + 1, by omega⟩, Weak.to [0] [0] (show okIds 1 [0] by decide) (by simp only [W, eqq, ↓reduceIte, Nat.reduceEqDiff, Nat.reduceLT, Nat.reduceLeDiff, Nat.reduceAdd, Nat.reduceMul, Nat.reduceSub, Nat.reduceBEq, Int.reduceLE, Int.reduceLT, Int.reduceNeg, Int.reduceToNat, Int.reduceEq, Int.reduceBEq, Int.reduceBNe, Nat.reduceBNe, bne_self_eq_false, reduceCtorEq, gt_iff_lt, ge_iff_le, hnx]), by simp only; omega⟩
    · obtain rfl : k = l.length / 64 := by omega
      (repeat (first | refine AWP.seq ?_ | refine AWP.block ?_ | (refine AWP.greg X_ok cl15 [0, 1, 5, 41] (by ((repeat (first | simp only [W, eqq, ↓reduceIte, Nat.reduceEqDiff, Nat.reduceLT, Nat.reduceLeDiff, Nat.reduceAdd, Nat.reduceMul, Nat.reduceSub, Nat.reduceBEq, Int.reduceLE, Int.reduceLT, Int.reduceNeg, Int.reduceToNat, Int.reduceEq, Int.reduceBEq, Int.reduceBNe, Nat.reduceBNe, bne_self_eq_false, reduceCtorEq, gt_iff_lt, ge_iff_le, h64] | (rewrite [if_pos]; rotate_left; focus (first | omega | (simp only [LN, h64]; omega) | (refine ⟨?_, ?_⟩ <;> (simp only [LN, h64] <;> omega)))) | (rewrite [if_neg]; rotate_left; focus (first | omega | (simp only [LN, h64]; omega) | (refine ⟨?_, ?_⟩ <;> (simp only [LN, h64] <;> omega)))))); with_reducible rfl)) ?_; try show AWP _ _ _ _ _ _) | (refine AWP.condT ?_ ?_; focus (simp only [W, eqq, ↓reduceIte, Nat.reduceEqDiff, Nat.reduceLT, Nat.reduceLeDiff, Nat.reduceAdd, Nat.reduceMul, Nat.reduceSub, Nat.reduceBEq, Int.reduceLE, Int.reduceLT, Int.reduceNeg, Int.reduceToNat, Int.reduceEq, Int.reduceBEq, Int.reduceBNe, Nat.reduceBNe, bne_self_eq_false, reduceCtorEq, gt_iff_lt, ge_iff_le, h64]; done)) | (refine AWP.condF ?_ ?_; focus (simp only [W, eqq, ↓reduceIte, Nat.reduceEqDiff, Nat.reduceLT, Nat.reduceLeDiff, Nat.reduceAdd, Nat.reduceMul, Nat.reduceSub, Nat.reduceBEq, Int.reduceLE, Int.reduceLT, Int.reduceNeg, Int.reduceToNat, Int.reduceEq, Int.reduceBEq, Int.reduceBNe, Nat.reduceBNe, bne_self_eq_false, reduceCtorEq, gt_iff_lt, ge_iff_le, h64]; done)) | (refine AWP.skip ?_; try show AWP _ _ _ _ _ _) | (refine AWP.exit ?_; try show AWP _ _ _ _ _ _)))
      show cretQ _ _ _ _ _ _ _; exact ⟨.inl rfl, [], [0], (show okIds 1 [0] by decide), by simp only [cres, resVals, RS.val, thawV, freezeOnes, freezeOne, renH, one, AV.ren, AV.renL, Blk.ren, W, eqq, ↓reduceIte, Nat.reduceEqDiff, Nat.reduceLT, Nat.reduceLeDiff, Nat.reduceAdd, Nat.reduceMul, Nat.reduceSub, Nat.reduceBEq, Int.reduceLE, Int.reduceLT, Int.reduceNeg, Int.reduceToNat, Int.reduceEq, Int.reduceBEq, Int.reduceBNe, Nat.reduceBNe, bne_self_eq_false, reduceCtorEq, gt_iff_lt, ge_iff_le, hv, hd]⟩

end Go.Fw

end

section
/- Chapter 7: the hash's end. -/
namespace Go.Fw
open Go Go.Proofs
set_option linter.unusedVariables false
set_option linter.unusedSimpArgs false

/-- How many noughts are put behind so many bytes and one. -/
def padK (m : Nat) : Nat := (119 - m % 64) % 64
def beB (N j : Nat) : UInt8 := UInt8.ofNat (N / 2 ^ (56 - 8 * j))
def be8 (N j : Nat) : List UInt8 := (List.range j).map (beB N)
theorem be8_snoc (N j : Nat) : be8 N j ++ [beB N j] = be8 N (j + 1) := by simp [be8, List.range_succ]
theorem be8_len (N j : Nat) : (be8 N j).length = j := by simp [be8]
def padS (r : List UInt8) (n : Nat) : List UInt8 := r ++ (128 :: repl (padK r.length) 0) ++ be8 (n * 8) 8
theorem padS_len (r : List UInt8) (n : Nat) : (padS r n).length % 64 = 0 := by
  simp only [padS, List.length_append, List.length_cons, repl_len, be8_len, padK]; omega

def outB (s : S8) (p : Nat) : UInt8 := ((s.l.getD (p / 4) 0) >>> UInt32.ofNat (24 - 8 * (p % 4))).toUInt8
def outM (s : S8) (p : Nat) : List UInt8 := (List.range 32).map fun j => if j < p then outB s j else 0
def outS (s : S8) : List UInt8 := (List.range 32).map (outB s)
theorem outM_0 (s : S8) : outM s 0 = zby 32 := rfl
theorem outM_32 (s : S8) : outM s 32 = outS s := by
  simp only [outM, outS]
  apply List.map_congr_left
  intro j hj
  rw [if_pos (by simpa using hj)]
theorem outM_len (s : S8) (p : Nat) : (outM s p).length = 32 := by simp [outM]
theorem outM_set (s : S8) {p : Nat} (h : p < 32) : (outM s p).set p (outB s p) = outM s (p + 1) := by
  apply List.ext_getElem
  · simp [outM]
  · intro j h1 h2
    simp only [List.length_set, outM_len] at h1
    rw [List.getElem_set]
    simp only [outM, List.getElem_map, List.getElem_range]
    by_cases e : p = j
    · subst e; simp
    · simp only [e, if_false]
      by_cases h3 : j < p
      · rw [if_pos h3, if_pos (by omega)]
      · rw [if_neg h3, if_neg (by omega)]

/-- The hash of what was taken, and of what is left. -/
def finS (s : S8) (r : List UInt8) (n : Nat) : List UInt8 := outS (eatS s (padS r n) ((padS r n).length / 64))

noncomputable def G16r : GFun
  | [.bx (.t (.st [.ar 8 1 xs, .by r, .int .u64 n]))], [.ptr 0 0 []] => match asS8 xs with
    | some s => if 0 ≤ n ∧ n ≤ 1000000000000 ∧ r.length ≤ 64 then some ([.bx (.t (.st [.ar 8 1 xs, .by r, .int .u64 n]))], .t (.ba 32 (finS s r n.toNat))) else none
    | none => none
  | _, _ => none

theorem cl16 : GClOk Try.prog [(14, ⟨[], treeG F14⟩), (28, ⟨[true, false], G28⟩)] := .cons c14.g (.cons g28 (.nil _))

theorem beB_eq (n j : Nat) (h : n ≤ 1000000000000) (hj : j < 8) : UInt8.ofNat (IntKind.u8.wrap (Int.fdiv ((n * 8 : Nat) : Int) (2 ^ (min (56 - 8 * j) IntKind.u64.bits)))).toNat = beB (n * 8) j := by
  have e : min (56 - 8 * j) IntKind.u64.bits = 56 - 8 * j := by rw [bits_u64]; omega
  rw [e, Int.fdiv_eq_ediv_of_nonneg _ (by exact_mod_cast Nat.zero_le _)]
  have e2 : (2 : Int) ^ (56 - 8 * j) = ((2 ^ (56 - 8 * j) : Nat) : Int) := by rw [Int.natCast_pow]; rfl
  rw [e2, ← Int.natCast_ediv, wrapu8]
  unfold beB
  generalize n * 8 / 2 ^ (56 - 8 * j) = m
  have : ((m : Int) % 256).toNat = m % 256 := by omega
  rw [this]
  apply UInt8.toNat_inj.1
  simp

set_option maxHeartbeats 2000000 in
theorem g16r : GCon Try.prog 16 G16r := by
  
  refine gconc E_ok (rs := [.cell 2 24]) Try.func16 rfl Try.ntmps16 (by kernel_rfl) rfl (by decide) G16r (np := 1) ?_ ?_
  · intro HB xs h; unfold G16r; split <;> first | rfl | (simp at h; done)
  intro HB xs H r hG hwf hex
  unfold G16r at hG
  split at hG <;> try (cases hG; done)
  rename_i xs r n
  split at hG
  case h_2 => cases hG
  rename_i s hs
  split at hG
  case isFalse => cases hG
  rename_i hc
  obtain ⟨hn0, hn1, hr⟩ := hc
  cases hG
  obtain rfl := asS8_inv hs
  obtain ⟨N, rfl⟩ : ∃ N : Nat, n = (N : Int) := ⟨n.toNat, by omega⟩
  simp only [Int.toNat_natCast]
  have e128 : ∀ l : List UInt8, (l ++ [128]).length = l.length + 1 := fun l => by simp
  (repeat (first | refine AWP.seq ?_ | refine AWP.block ?_ | (refine AWP.greg X_ok cl16 [0, 2, 3, 4, 5, 6, 7, 8, 9, 10, 12, 27, 37, 53, 59, 60, 61, 64, 65] (by ((repeat (first | simp only [W, eqq, ↓reduceIte, Nat.reduceEqDiff, Nat.reduceLT, Nat.reduceLeDiff, Nat.reduceAdd, Nat.reduceMul, Nat.reduceSub, Nat.reduceBEq, Int.reduceLE, Int.reduceLT, Int.reduceNeg, Int.reduceToNat, Int.reduceEq, Int.reduceBEq, Int.reduceBNe, Nat.reduceBNe, bne_self_eq_false, reduceCtorEq, gt_iff_lt, ge_iff_le, gentry, hr, e128] | (rewrite [if_pos]; rotate_left; focus (first | omega | (simp only [LN, gentry, hr, e128]; omega) | (refine ⟨?_, ?_⟩ <;> (simp only [LN, gentry, hr, e128] <;> omega)))) | (rewrite [if_neg]; rotate_left; focus (first | omega | (simp only [LN, gentry, hr, e128]; omega) | (refine ⟨?_, ?_⟩ <;> (simp only [LN, gentry, hr, e128] <;> omega)))))); with_reducible rfl)) ?_; try show AWP _ _ _ _ _ _) | (refine AWP.condT ?_ ?_; focus (simp only [W, eqq, ↓reduceIte, Nat.reduceEqDiff, Nat.reduceLT, Nat.reduceLeDiff, Nat.reduceAdd, Nat.reduceMul, Nat.reduceSub, Nat.reduceBEq, Int.reduceLE, Int.reduceLT, Int.reduceNeg, Int.reduceToNat, Int.reduceEq, Int.reduceBEq, Int.reduceBNe, Nat.reduceBNe, bne_self_eq_false, reduceCtorEq, gt_iff_lt, ge_iff_le, gentry, hr, e128]; done)) | (refine AWP.condF ?_ ?_; focus (simp only [W, eqq, ↓reduceIte, Nat.reduceEqDiff, Nat.reduceLT, Nat.reduceLeDiff, Nat.reduceAdd, Nat.reduceMul, Nat.reduceSub, Nat.reduceBEq, Int.reduceLE, Int.reduceLT, Int.reduceNeg, Int.reduceToNat, Int.reduceEq, Int.reduceBEq, Int.reduceBNe, Nat.reduceBNe, bne_self_eq_false, reduceCtorEq, gt_iff_lt, ge_iff_le, gentry, hr, e128]; done)) | (refine AWP.skip ?_; try show AWP _ _ _ _ _ _) | (refine AWP.exit ?_; try show AWP _ _ _ _ _ _)))
  have hp64 : (r ++ UInt8.ofNat 128 :: repl (padK r.length) 0).length % 64 = 56 := by simp only [List.length_append, List.length_cons, repl_len, padK]; omega
  refine AWP.loop (G := { k : Nat // k ≤ padK r.length }) (fun k => ⟨[(0, .ptr 0 0 []), (2, .ptr 1 0 []), (3, .own 2)], [hB s r N, .bx (.t (.ba 32 (zby 32))), .by (r ++ (UInt8.ofNat 128 :: repl k.1 0))]⟩) (fun k => padK r.length - k.1) ⟨0, by omega⟩ (Weak.to [0, 2, 3] [0, 1, 5] (show okIds 1 [0, 1, 5] by decide) (by simp only [W, eqq, ↓reduceIte, Nat.reduceEqDiff, Nat.reduceLT, Nat.reduceLeDiff, Nat.reduceAdd, Nat.reduceMul, Nat.reduceSub, Nat.reduceBEq, Int.reduceLE, Int.reduceLT, Int.reduceNeg, Int.reduceToNat, Int.reduceEq, Int.reduceBEq, Int.reduceBNe, Nat.reduceBNe, bne_self_eq_false, reduceCtorEq, gt_iff_lt, ge_iff_le, repl_0])) ?_
  intro ⟨k, hk⟩
  dsimp only
  obtain ⟨L, hL⟩ : ∃ L, r ++ (UInt8.ofNat 128 :: repl k (0 : UInt8)) = L := ⟨_, rfl⟩
  have hLl : L.length = r.length + 1 + k := by rw [← hL]; simp only [List.length_append, List.length_cons, repl_len]; omega
  have hnx : L ++ [UInt8.ofNat 0] = r ++ (UInt8.ofNat 128 :: repl (k + 1) 0) := by rw [← hL, ← repl_snoc]; simp
  rw [hL]
  have hrem : IntKind.i64.wrap (Int.tmod (L.length : Int) 64) = ((L.length % 64 : Nat) : Int) := by
    have : Int.tmod (L.length : Int) 64 = ((L.length % 64 : Nat) : Int) := by rw [Int.tmod_eq_emod_of_nonneg (by omega)]; omega
    rw [this, wrap_i64 (by omega) (by omega)]
  have hkK : padK r.length = (119 - r.length % 64) % 64 := rfl
  have hLs : L.length ≤ 200 := by omega
  by_cases hd : L.length % 64 = 56
  · have hkk : k = padK r.length := by omega
    have hd' : (((L.length % 64 : Nat) : Int) != 56) = false := by simp; omega
    rw [← hkk] at hp64
    have hpad : padS r N = L ++ be8 (N * 8) 8 := by rw [← hL, hkk]; rfl
    have hmul : IntKind.u64.wrap ((N : Int) * 8) = ((N * 8 : Nat) : Int) := by rw [wrap_u64 (by omega) (by omega)]; omega
    (repeat (first | refine AWP.seq ?_ | refine AWP.block ?_ | (refine AWP.greg X_ok cl16 [0, 2, 3, 4, 5, 6, 7, 8, 9, 10, 12, 27, 37, 53, 59, 60, 61, 64, 65] (by ((repeat (first | simp only [W, eqq, ↓reduceIte, Nat.reduceEqDiff, Nat.reduceLT, Nat.reduceLeDiff, Nat.reduceAdd, Nat.reduceMul, Nat.reduceSub, Nat.reduceBEq, Int.reduceLE, Int.reduceLT, Int.reduceNeg, Int.reduceToNat, Int.reduceEq, Int.reduceBEq, Int.reduceBNe, Nat.reduceBNe, bne_self_eq_false, reduceCtorEq, gt_iff_lt, ge_iff_le, hrem, hd', hmul] | (rewrite [if_pos]; rotate_left; focus (first | omega | (simp only [LN, hrem, hd', hmul]; omega) | (refine ⟨?_, ?_⟩ <;> (simp only [LN, hrem, hd', hmul] <;> omega)))) | (rewrite [if_neg]; rotate_left; focus (first | omega | (simp only [LN, hrem, hd', hmul]; omega) | (refine ⟨?_, ?_⟩ <;> (simp only [LN, hrem, hd', hmul] <;> omega)))))); with_reducible rfl)) ?_; try show AWP _ _ _ _ _ _) | (refine AWP.condT ?_ ?_; focus (simp only [W, eqq, ↓reduceIte, Nat.reduceEqDiff, Nat.reduceLT, Nat.reduceLeDiff, Nat.reduceAdd, Nat.reduceMul, Nat.reduceSub, Nat.reduceBEq, Int.reduceLE, Int.reduceLT, Int.reduceNeg, Int.reduceToNat, Int.reduceEq, Int.reduceBEq, Int.reduceBNe, Nat.reduceBNe, bne_self_eq_false, reduceCtorEq, gt_iff_lt, ge_iff_le, hrem, hd', hmul]; done)) | (refine AWP.condF ?_ ?_; focus (simp only [W, eqq, ↓reduceIte, Nat.reduceEqDiff, Nat.reduceLT, Nat.reduceLeDiff, Nat.reduceAdd, Nat.reduceMul, Nat.reduceSub, Nat.reduceBEq, Int.reduceLE, Int.reduceLT, Int.reduceNeg, Int.reduceToNat, Int.reduceEq, Int.reduceBEq, Int.reduceBNe, Nat.reduceBNe, bne_self_eq_false, reduceCtorEq, gt_iff_lt, ge_iff_le, hrem, hd', hmul]; done)) | (refine AWP.skip ?_; try show AWP _ _ _ _ _ _) | (refine AWP.exit ?_; try show AWP _ _ _ _ _ _)))
    have hLs' : L.length ≤ 200 := by omega
    refine AWP.loop (G := { x : Nat × Int // x.1 ≤ 8 ∧ x.2 = 56 - 8 * (x.1 : Int) }) (fun x => ⟨[(0, .ptr 0 0 []), (2, .ptr 1 0 []), (3, .own 2), (4, .t (.int .u64 ((N * 8 : Nat) : Int))), (5, .t (.int .i64 x.1.2))], [hB s r N, .bx (.t (.ba 32 (zby 32))), .by (L ++ be8 (N * 8) x.1.1)]⟩) (fun x => 8 - x.1.1) ⟨(0, 56), by omega, rfl⟩ (Weak.to [0, 2, 3, 4, 5] [0, 1, 2] (show okIds 1 [0, 1, 2] by decide) (by simp only [W, eqq, ↓reduceIte, Nat.reduceEqDiff, Nat.reduceLT, Nat.reduceLeDiff, Nat.reduceAdd, Nat.reduceMul, Nat.reduceSub, Nat.reduceBEq, Int.reduceLE, Int.reduceLT, Int.reduceNeg, Int.reduceToNat, Int.reduceEq, Int.reduceBEq, Int.reduceBNe, Nat.reduceBNe, bne_self_eq_false, reduceCtorEq, gt_iff_lt, ge_iff_le, show be8 (N * 8) 0 = [] from rfl])) ?_
    intro ⟨⟨j, q⟩, hj, hq⟩
    dsimp only at hj hq ⊢
    have hbl := be8_len (N * 8) j
    by_cases hq0 : 0 ≤ q
    · have hj8 : j < 8 := by omega
      have hqn : q = ((56 - 8 * j : Nat) : Int) := by omega
      have hbyte := beB_eq N j (by omega) hj8
      have hqt : q.toNat = 56 - 8 * j := by omega
      have hq0' : ¬ q < 0 := by omega
      have hk8 : IntKind.i64.wrap (q - 8) = q - 8 := wrap_i64 (by omega) (by omega)
      have hal : (L ++ be8 (N * 8) j).length ≤ 300 := by simp [hbl]; omega
      have hsn : (L ++ be8 (N * 8) j) ++ [beB (N * 8) j] = L ++ be8 (N * 8) (j + 1) := by rw [List.append_assoc, be8_snoc]
      obtain ⟨M, hM⟩ : ∃ M, L ++ be8 (N * 8) j = M := ⟨_, rfl⟩
      rw [hM] at hal hsn ⊢
      (repeat (first | refine AWP.seq ?_ | refine AWP.block ?_ | (refine AWP.greg X_ok cl16 [0, 2, 3, 4, 5, 6, 7, 8, 9, 10, 12, 27, 37, 53, 59, 60, 61, 64, 65] (by ((repeat (first | simp only [W, eqq, ↓reduceIte, Nat.reduceEqDiff, Nat.reduceLT, Nat.reduceLeDiff, Nat.reduceAdd, Nat.reduceMul, Nat.reduceSub, Nat.reduceBEq, Int.reduceLE, Int.reduceLT, Int.reduceNeg, Int.reduceToNat, Int.reduceEq, Int.reduceBEq, Int.reduceBNe, Nat.reduceBNe, bne_self_eq_false, reduceCtorEq, gt_iff_lt, ge_iff_le, hq0, hq0', hqt, hbyte, hk8, hal] | (rewrite [if_pos]; rotate_left; focus (first | omega | (simp only [LN, hq0, hq0', hqt, hbyte, hk8, hal]; omega) | (refine ⟨?_, ?_⟩ <;> (simp only [LN, hq0, hq0', hqt, hbyte, hk8, hal] <;> omega)))) | (rewrite [if_neg]; rotate_left; focus (first | omega | (simp only [LN, hq0, hq0', hqt, hbyte, hk8, hal]; omega) | (refine ⟨?_, ?_⟩ <;> (simp only [LN, hq0, hq0', hqt, hbyte, hk8, hal] <;> omega)))))); with_reducible rfl)) ?_; try show AWP _ _ _ _ _ _) | (refine AWP.condT ?_ ?_; focus (simp only [W, eqq, ↓reduceIte, Nat.reduceEqDiff, Nat.reduceLT, Nat.reduceLeDiff, Nat.reduceAdd, Nat.reduceMul, Nat.reduceSub, Nat.reduceBEq, Int.reduceLE, Int.reduceLT, Int.reduceNeg, Int.reduceToNat, Int.reduceEq, Int.reduceBEq, Int.reduceBNe, Nat.reduceBNe, bne_self_eq_false, reduceCtorEq, gt_iff_lt, ge_iff_le, hq0, hq0', hqt, hbyte, hk8, hal]; done)) | (refine AWP.condF ?_ ?_; focus (simp only [W, eqq, ↓reduceIte, Nat.reduceEqDiff, Nat.reduceLT, Nat.reduceLeDiff, Nat.reduceAdd, Nat.reduceMul, Nat.reduceSub, Nat.reduceBEq, Int.reduceLE, Int.reduceLT, Int.reduceNeg, Int.reduceToNat, Int.reduceEq, Int.reduceBEq, Int.reduceBNe, Nat.reduceBNe, bne_self_eq_false, reduceCtorEq, gt_iff_lt, ge_iff_le, hq0, hq0', hqt, hbyte, hk8, hal]; done)) | (refine AWP.skip ?_; try show AWP _ _ _ _ _ _) | (refine AWP.exit ?_; try show AWP _ _ _ _ _ _)))
      exact ⟨⟨(j + 1, q - 8), by omega, by simp only; omega⟩, Weak.to [0, 2, 3, 4, 5] [0, 1, 4] (show okIds 1 [0, 1, 4] by decide) (by simp only [W, eqq, ↓reduceIte, Nat.reduceEqDiff, Nat.reduceLT, Nat.reduceLeDiff, Nat.reduceAdd, Nat.reduceMul, Nat.reduceSub, Nat.reduceBEq, Int.reduceLE, Int.reduceLT, Int.reduceNeg, Int.reduceToNat, Int.reduceEq, Int.reduceBEq, Int.reduceBNe, Nat.reduceBNe, bne_self_eq_false, reduceCtorEq, gt_iff_lt, ge_iff_le, hsn]), by simp only; omega⟩
    · obtain rfl : j = 8 := by omega
      rw [← hpad]
      have hpl := padS_len r N
      have hfin : finS s r N = outS (eatS s (padS r N) ((padS r N).length / 64)) := rfl
      have hps : (padS r N).length ≤ 300 := by rw [hpad]; simp [hbl]; omega
      obtain ⟨P, hP⟩ : ∃ P, padS r N = P := ⟨_, rfl⟩
      rw [hP] at hpl hfin hps ⊢
      (repeat (first | refine AWP.seq ?_ | refine AWP.block ?_ | (refine AWP.greg X_ok cl16 [0, 2, 3, 4, 5, 6, 7, 8, 9, 10, 12, 27, 37, 53, 59, 60, 61, 64, 65] (by ((repeat (first | simp only [W, eqq, ↓reduceIte, Nat.reduceEqDiff, Nat.reduceLT, Nat.reduceLeDiff, Nat.reduceAdd, Nat.reduceMul, Nat.reduceSub, Nat.reduceBEq, Int.reduceLE, Int.reduceLT, Int.reduceNeg, Int.reduceToNat, Int.reduceEq, Int.reduceBEq, Int.reduceBNe, Nat.reduceBNe, bne_self_eq_false, reduceCtorEq, gt_iff_lt, ge_iff_le, hq0, T.size] | (rewrite [if_pos]; rotate_left; focus (first | omega | (simp only [LN, hq0, T.size]; omega) | (refine ⟨?_, ?_⟩ <;> (simp only [LN, hq0, T.size] <;> omega)))) | (rewrite [if_neg]; rotate_left; focus (first | omega | (simp only [LN, hq0, T.size]; omega) | (refine ⟨?_, ?_⟩ <;> (simp only [LN, hq0, T.size] <;> omega)))))); with_reducible rfl)) ?_; try show AWP _ _ _ _ _ _) | (refine AWP.condT ?_ ?_; focus (simp only [W, eqq, ↓reduceIte, Nat.reduceEqDiff, Nat.reduceLT, Nat.reduceLeDiff, Nat.reduceAdd, Nat.reduceMul, Nat.reduceSub, Nat.reduceBEq, Int.reduceLE, Int.reduceLT, Int.reduceNeg, Int.reduceToNat, Int.reduceEq, Int.reduceBEq, Int.reduceBNe, Nat.reduceBNe, bne_self_eq_false, reduceCtorEq, gt_iff_lt, ge_iff_le, hq0, T.size]; done)) | (refine AWP.condF ?_ ?_; focus (simp only [W, eqq, ↓reduceIte, Nat.reduceEqDiff, Nat.reduceLT, Nat.reduceLeDiff, Nat.reduceAdd, Nat.reduceMul, Nat.reduceSub, Nat.reduceBEq, Int.reduceLE, Int.reduceLT, Int.reduceNeg, Int.reduceToNat, Int.reduceEq, Int.reduceBEq, Int.reduceBNe, Nat.reduceBNe, bne_self_eq_false, reduceCtorEq, gt_iff_lt, ge_iff_le, hq0, T.size]; done)) | (refine AWP.skip ?_; try show AWP _ _ _ _ _ _) | (refine AWP.exit ?_; try show AWP _ _ _ _ _ _)))
      refine AWP.weak (Weak.freeze 2) ?_
      refine AWP.weak (Weak.thawS (y := .by P) 3 rfl) ?_
      refine AWP.loop (G := { k : Nat // 64 * k ≤ P.length }) (fun k => ⟨[(2, .ptr 1 0 []), (3, .t (.by (P.drop (64 * k.1)))), (6, .ptr 2 0 [])], [hB s r N, .bx (.t (.ba 32 (zby 32))), .bx (.t (.ar 8 1 ((eatS s P k.1).l.map u32T)))]⟩) (fun k => P.length - 64 * k.1) ⟨0, by omega⟩ (Weak.to [2, 3, 6] [0, 1, 3] (show okIds 1 [0, 1, 3] by decide) (by simp only [W, eqq, ↓reduceIte, Nat.reduceEqDiff, Nat.reduceLT, Nat.reduceLeDiff, Nat.reduceAdd, Nat.reduceMul, Nat.reduceSub, Nat.reduceBEq, Int.reduceLE, Int.reduceLT, Int.reduceNeg, Int.reduceToNat, Int.reduceEq, Int.reduceBEq, Int.reduceBNe, Nat.reduceBNe, bne_self_eq_false, reduceCtorEq, gt_iff_lt, ge_iff_le, freezeOne, eatS, Nat.mul_zero])) ?_
      intro ⟨k, hk⟩
      dsimp only
      have hdl : (P.drop (64 * k)).length = P.length - 64 * k := by simp
      have hnx : eatS s P (k + 1) = blkS (eatS s P k) ((P.drop (64 * k)).take 64) := rfl
      have hdd : (P.drop (64 * k)).drop 64 = P.drop (64 * (k + 1)) := by rw [List.drop_drop]; congr 1
      obtain ⟨v, hv⟩ : ∃ v, eatS s P k = v := ⟨_, rfl⟩
      obtain ⟨d, hd⟩ : ∃ d, P.drop (64 * k) = d := ⟨_, rfl⟩
      rw [hv, hd] at hnx
      rw [hd] at hdl hdd
      rw [hv, hd]
      by_cases h64 : 0 < (d.length : Int)
      · have h64' : 64 ≤ d.length := by omega
        have h64i : 64 ≤ (d.length : Int) := by omega
        have htl : (d.take 64).length = 64 := by simp; omega
        have htk := take_c1 v htl
        (repeat (first | refine AWP.seq ?_ | refine AWP.block ?_ | (refine AWP.greg X_ok cl16 [0, 2, 3, 4, 5, 6, 7, 8, 9, 10, 12, 27, 37, 53, 59, 60, 61, 64, 65] (by ((repeat (first | simp only [W, eqq, ↓reduceIte, Nat.reduceEqDiff, Nat.reduceLT, Nat.reduceLeDiff, Nat.reduceAdd, Nat.reduceMul, Nat.reduceSub, Nat.reduceBEq, Int.reduceLE, Int.reduceLT, Int.reduceNeg, Int.reduceToNat, Int.reduceEq, Int.reduceBEq, Int.reduceBNe, Nat.reduceBNe, bne_self_eq_false, reduceCtorEq, gt_iff_lt, ge_iff_le, h64, h64', h64i, hdd, htk] | (rewrite [if_pos]; rotate_left; focus (first | omega | (simp only [LN, h64, h64', h64i, hdd, htk]; omega) | (refine ⟨?_, ?_⟩ <;> (simp only [LN, h64, h64', h64i, hdd, htk] <;> omega)))) | (rewrite [if_neg]; rotate_left; focus (first | omega | (simp only [LN, h64, h64', h64i, hdd, htk]; omega) | (refine ⟨?_, ?_⟩ <;> (simp only [LN, h64, h64', h64i, hdd, htk] <;> omega)))))); with_reducible rfl)) ?_; try show AWP _ _ _ _ _ _) | (refine AWP.condT ?_ ?_; focus (simp only [W, eqq, ↓reduceIte, Nat.reduceEqDiff, Nat.reduceLT, Nat.reduceLeDiff, Nat.reduceAdd, Nat.reduceMul, Nat.reduceSub, Nat.reduceBEq, Int.reduceLE, Int.reduceLT, Int.reduceNeg, Int.reduceToNat, Int.reduceEq, Int.reduceBEq, Int.reduceBNe, Nat.reduceBNe, bne_self_eq_false, reduceCtorEq, gt_iff_lt, ge_iff_le, h64, h64', h64i, hdd, htk]; done)) | (refine AWP.condF ?_ ?_; focus (simp only [W, eqq, ↓reduceIte, Nat.reduceEqDiff, Nat.reduceLT, Nat.reduceLeDiff, Nat.reduceAdd, Nat.reduceMul, Nat.reduceSub, Nat.reduceBEq, Int.reduceLE, Int.reduceLT, Int.reduceNeg, Int.reduceToNat, Int.reduceEq, Int.reduceBEq, Int.reduceBNe, Nat.reduceBNe, bne_self_eq_false, reduceCtorEq, gt_iff_lt, ge_iff_le, h64, h64', h64i, hdd, htk]; done)) | (refine AWP.skip ?_; try show AWP _ _ _ _ _ _) | (refine AWP.exit ?_; try show AWP _ _ _ _ _ _)))
        exact ⟨⟨k + 1, by omega⟩, Weak.to [2, 3, 6] [0, 1, 2] (show okIds 1 [0, 1, 2] by decide) (by simp only [W, eqq, ↓reduceIte, Nat.reduceEqDiff, Nat.reduceLT, Nat.reduceLeDiff, Nat.reduceAdd, Nat.reduceMul, Nat.reduceSub, Nat.reduceBEq, Int.reduceLE, Int.reduceLT, Int.reduceNeg, Int.reduceToNat, Int.reduceEq, Int.reduceBEq, Int.reduceBNe, Nat.reduceBNe, bne_self_eq_false, reduceCtorEq, gt_iff_lt, ge_iff_le, hnx]), by simp only; omega⟩
      · have hkk : k = P.length / 64 := by omega
        rw [← hkk, hv] at hfin
        (repeat (first | refine AWP.seq ?_ | refine AWP.block ?_ | (refine AWP.greg X_ok cl16 [0, 2, 3, 4, 5, 6, 7, 8, 9, 10, 12, 27, 37, 53, 59, 60, 61, 64, 65] (by ((repeat (first | simp only [W, eqq, ↓reduceIte, Nat.reduceEqDiff, Nat.reduceLT, Nat.reduceLeDiff, Nat.reduceAdd, Nat.reduceMul, Nat.reduceSub, Nat.reduceBEq, Int.reduceLE, Int.reduceLT, Int.reduceNeg, Int.reduceToNat, Int.reduceEq, Int.reduceBEq, Int.reduceBNe, Nat.reduceBNe, bne_self_eq_false, reduceCtorEq, gt_iff_lt, ge_iff_le, h64] | (rewrite [if_pos]; rotate_left; focus (first | omega | (simp only [LN, h64]; omega) | (refine ⟨?_, ?_⟩ <;> (simp only [LN, h64] <;> omega)))) | (rewrite [if_neg]; rotate_left; focus (first | omega | (simp only [LN, h64]; omega) | (refine ⟨?_, ?_⟩ <;> (simp only [LN, h64] <;> omega)))))); with_reducible rfl)) ?_; try show AWP _ _ _ _ _ _) | (refine AWP.condT ?_ ?_; focus (simp only [W, eqq, ↓reduceIte, Nat.reduceEqDiff, Nat.reduceLT, Nat.reduceLeDiff, Nat.reduceAdd, Nat.reduceMul, Nat.reduceSub, Nat.reduceBEq, Int.reduceLE, Int.reduceLT, Int.reduceNeg, Int.reduceToNat, Int.reduceEq, Int.reduceBEq, Int.reduceBNe, Nat.reduceBNe, bne_self_eq_false, reduceCtorEq, gt_iff_lt, ge_iff_le, h64]; done)) | (refine AWP.condF ?_ ?_; focus (simp only [W, eqq, ↓reduceIte, Nat.reduceEqDiff, Nat.reduceLT, Nat.reduceLeDiff, Nat.reduceAdd, Nat.reduceMul, Nat.reduceSub, Nat.reduceBEq, Int.reduceLE, Int.reduceLT, Int.reduceNeg, Int.reduceToNat, Int.reduceEq, Int.reduceBEq, Int.reduceBNe, Nat.reduceBNe, bne_self_eq_false, reduceCtorEq, gt_iff_lt, ge_iff_le, h64]; done)) | (refine AWP.skip ?_; try show AWP _ _ _ _ _ _) | (refine AWP.exit ?_; try show AWP _ _ _ _ _ _)))
        refine AWP.loop (G := { i : Nat // i ≤ 8 }) (fun i => ⟨[(2, .ptr 1 0 []), (7, .ptr 2 0 []), (59, .t (.ar 8 1 (v.l.map u32T))), (60, .t (.int .i64 (i.1 : Int)))], [hB s r N, .bx (.t (.ba 32 (zby 32))), .bx (.t (.ba 32 (outM v (4 * i.1))))]⟩) (fun i => 8 - i.1) ⟨0, by omega⟩ (Weak.to [2, 7, 59, 60] [0, 1, 3] (show okIds 1 [0, 1, 3] by decide) (by simp only [W, eqq, ↓reduceIte, Nat.reduceEqDiff, Nat.reduceLT, Nat.reduceLeDiff, Nat.reduceAdd, Nat.reduceMul, Nat.reduceSub, Nat.reduceBEq, Int.reduceLE, Int.reduceLT, Int.reduceNeg, Int.reduceToNat, Int.reduceEq, Int.reduceBEq, Int.reduceBNe, Nat.reduceBNe, bne_self_eq_false, reduceCtorEq, gt_iff_lt, ge_iff_le, Nat.mul_zero, outM_0])) ?_
        intro ⟨i, hi⟩
        dsimp only
        by_cases hi8 : (i : Int) < 8
        case neg =>
          obtain rfl : i = 8 := by omega
          have ho := outM_32 v
          have hol := outM_len v 32
          (repeat (first | refine AWP.seq ?_ | refine AWP.block ?_ | (refine AWP.greg X_ok cl16 [0, 2, 3, 4, 5, 6, 7, 8, 9, 10, 12, 27, 37, 53, 59, 60, 61, 64, 65] (by ((repeat (first | simp only [W, eqq, ↓reduceIte, Nat.reduceEqDiff, Nat.reduceLT, Nat.reduceLeDiff, Nat.reduceAdd, Nat.reduceMul, Nat.reduceSub, Nat.reduceBEq, Int.reduceLE, Int.reduceLT, Int.reduceNeg, Int.reduceToNat, Int.reduceEq, Int.reduceBEq, Int.reduceBNe, Nat.reduceBNe, bne_self_eq_false, reduceCtorEq, gt_iff_lt, ge_iff_le, hi8, T.size, show 4 * 8 = 32 from rfl, ho] | (rewrite [if_pos]; rotate_left; focus (first | omega | (simp only [LN, hi8, T.size, show 4 * 8 = 32 from rfl, ho]; omega) | (refine ⟨?_, ?_⟩ <;> (simp only [LN, hi8, T.size, show 4 * 8 = 32 from rfl, ho] <;> omega)))) | (rewrite [if_neg]; rotate_left; focus (first | omega | (simp only [LN, hi8, T.size, show 4 * 8 = 32 from rfl, ho]; omega) | (refine ⟨?_, ?_⟩ <;> (simp only [LN, hi8, T.size, show 4 * 8 = 32 from rfl, ho] <;> omega)))))); with_reducible rfl)) ?_; try show AWP _ _ _ _ _ _) | (refine AWP.condT ?_ ?_; focus (simp only [W, eqq, ↓reduceIte, Nat.reduceEqDiff, Nat.reduceLT, Nat.reduceLeDiff, Nat.reduceAdd, Nat.reduceMul, Nat.reduceSub, Nat.reduceBEq, Int.reduceLE, Int.reduceLT, Int.reduceNeg, Int.reduceToNat, Int.reduceEq, Int.reduceBEq, Int.reduceBNe, Nat.reduceBNe, bne_self_eq_false, reduceCtorEq, gt_iff_lt, ge_iff_le, hi8, T.size, show 4 * 8 = 32 from rfl, ho]; done)) | (refine AWP.condF ?_ ?_; focus (simp only [W, eqq, ↓reduceIte, Nat.reduceEqDiff, Nat.reduceLT, Nat.reduceLeDiff, Nat.reduceAdd, Nat.reduceMul, Nat.reduceSub, Nat.reduceBEq, Int.reduceLE, Int.reduceLT, Int.reduceNeg, Int.reduceToNat, Int.reduceEq, Int.reduceBEq, Int.reduceBNe, Nat.reduceBNe, bne_self_eq_false, reduceCtorEq, gt_iff_lt, ge_iff_le, hi8, T.size, show 4 * 8 = 32 from rfl, ho]; done)) | (refine AWP.skip ?_; try show AWP _ _ _ _ _ _) | (refine AWP.exit ?_; try show AWP _ _ _ _ _ _)))
          refine AWP.ret ?_; show cretQ _ _ _ _ _ _ _; exact ⟨.inr rfl, [], [0], (show okIds 1 [0] by decide), by simp only [cres, resVals, RS.val, thawV, freezeOnes, freezeOne, renH, one, AV.ren, AV.renL, Blk.ren, W, eqq, ↓reduceIte, Nat.reduceEqDiff, Nat.reduceLT, Nat.reduceLeDiff, Nat.reduceAdd, Nat.reduceMul, Nat.reduceSub, Nat.reduceBEq, Int.reduceLE, Int.reduceLT, Int.reduceNeg, Int.reduceToNat, Int.reduceEq, Int.reduceBEq, Int.reduceBNe, Nat.reduceBNe, bne_self_eq_false, reduceCtorEq, gt_iff_lt, ge_iff_le, hfin]⟩
        have hi8' : i < 8 := by omega
        have hvl : (List.map u32T v.l).length = 8 := rfl
        have hvg := a8_get v i hi8'
        have hki : IntKind.i64.wrap ((i : Int) + 1) = ((i + 1 : Nat) : Int) := by rw [wrap_i64 (by omega) (by omega)]; omega
        (repeat (first | refine AWP.seq ?_ | refine AWP.block ?_ | (refine AWP.greg X_ok cl16 [0, 2, 3, 4, 5, 6, 7, 8, 9, 10, 12, 27, 37, 53, 59, 60, 61, 64, 65] (by ((repeat (first | simp only [W, eqq, ↓reduceIte, Nat.reduceEqDiff, Nat.reduceLT, Nat.reduceLeDiff, Nat.reduceAdd, Nat.reduceMul, Nat.reduceSub, Nat.reduceBEq, Int.reduceLE, Int.reduceLT, Int.reduceNeg, Int.reduceToNat, Int.reduceEq, Int.reduceBEq, Int.reduceBNe, Nat.reduceBNe, bne_self_eq_false, reduceCtorEq, gt_iff_lt, ge_iff_le, hi8, hi8', hvl, hvg] | (rewrite [if_pos]; rotate_left; focus (first | omega | (simp only [LN, hi8, hi8', hvl, hvg]; omega) | (refine ⟨?_, ?_⟩ <;> (simp only [LN, hi8, hi8', hvl, hvg] <;> omega)))) | (rewrite [if_neg]; rotate_left; focus (first | omega | (simp only [LN, hi8, hi8', hvl, hvg]; omega) | (refine ⟨?_, ?_⟩ <;> (simp only [LN, hi8, hi8', hvl, hvg] <;> omega)))))); with_reducible rfl)) ?_; try show AWP _ _ _ _ _ _) | (refine AWP.condT ?_ ?_; focus (simp only [W, eqq, ↓reduceIte, Nat.reduceEqDiff, Nat.reduceLT, Nat.reduceLeDiff, Nat.reduceAdd, Nat.reduceMul, Nat.reduceSub, Nat.reduceBEq, Int.reduceLE, Int.reduceLT, Int.reduceNeg, Int.reduceToNat, Int.reduceEq, Int.reduceBEq, Int.reduceBNe, Nat.reduceBNe, bne_self_eq_false, reduceCtorEq, gt_iff_lt, ge_iff_le, hi8, hi8', hvl, hvg]; done)) | (refine AWP.condF ?_ ?_; focus (simp only [W, eqq, ↓reduceIte, Nat.reduceEqDiff, Nat.reduceLT, Nat.reduceLeDiff, Nat.reduceAdd, Nat.reduceMul, Nat.reduceSub, Nat.reduceBEq, Int.reduceLE, Int.reduceLT, Int.reduceNeg, Int.reduceToNat, Int.reduceEq, Int.reduceBEq, Int.reduceBNe, Nat.reduceBNe, bne_self_eq_false, reduceCtorEq, gt_iff_lt, ge_iff_le, hi8, hi8', hvl, hvg]; done)) | (refine AWP.skip ?_; try show AWP _ _ _ _ _ _) | (refine AWP.exit ?_; try show AWP _ _ _ _ _ _)))
        refine AWP.loop (G := { j : Nat // j ≤ 4 }) (fun j => ⟨[(2, .ptr 1 0 []), (7, .ptr 2 0 []), (8, .t (.int .i64 (i : Int))), (9, .t (.int .u32 ((v.l.getD i 0).toNat : Int))), (59, .t (.ar 8 1 (v.l.map u32T))), (60, .t (.int .i64 (i : Int))), (64, .t (.int .i64 (j.1 : Int)))], [hB s r N, .bx (.t (.ba 32 (zby 32))), .bx (.t (.ba 32 (outM v (4 * i + j.1))))]⟩) (fun j => 4 - j.1) ⟨0, by omega⟩ (Weak.to [2, 7, 8, 9, 59, 60, 64] [0, 1, 2] (show okIds 1 [0, 1, 2] by decide) (by simp only [W, eqq, ↓reduceIte, Nat.reduceEqDiff, Nat.reduceLT, Nat.reduceLeDiff, Nat.reduceAdd, Nat.reduceMul, Nat.reduceSub, Nat.reduceBEq, Int.reduceLE, Int.reduceLT, Int.reduceNeg, Int.reduceToNat, Int.reduceEq, Int.reduceBEq, Int.reduceBNe, Nat.reduceBNe, bne_self_eq_false, reduceCtorEq, gt_iff_lt, ge_iff_le])) ?_
        intro ⟨j, hj⟩
        dsimp only
        by_cases hj4 : (j : Int) < 4
        · have hj4' : j < 4 := by omega
          have hm4 : IntKind.i64.wrap (4 * (i : Int)) = ((4 * i : Nat) : Int) := by rw [wrap_i64 (by omega) (by omega)]; omega
          have hm4j : IntKind.i64.wrap (((4 * i : Nat) : Int) + (j : Int)) = ((4 * i + j : Nat) : Int) := by rw [wrap_i64 (by omega) (by omega)]; omega
          have hm8 : IntKind.i64.wrap (8 * (j : Int)) = ((8 * j : Nat) : Int) := by rw [wrap_i64 (by omega) (by omega)]; omega
          have hm24 : IntKind.i64.wrap (24 - ((8 * j : Nat) : Int)) = ((24 - 8 * j : Nat) : Int) := by rw [wrap_i64 (by omega) (by omega)]; omega
          have hnn : ¬ ((24 - 8 * j : Nat) : Int) < 0 := by omega
          have hsh := u32_shr (v.l.getD i 0) (24 - 8 * j) (by omega)
          have hob : ((v.l.getD i 0) >>> UInt32.ofNat (24 - 8 * j)).toUInt8 = outB v (4 * i + j) := by
            unfold outB
            rw [show (4 * i + j) / 4 = i by omega, show (4 * i + j) % 4 = j by omega]
          have hp32 : 4 * i + j < 32 := by omega
          have hp32i : ((4 * i + j : Nat) : Int) < 32 := by omega
          have hset := outM_set v hp32
          have hol := outM_len v (4 * i + j)
          have hkj : IntKind.i64.wrap ((j : Int) + 1) = ((j + 1 : Nat) : Int) := by rw [wrap_i64 (by omega) (by omega)]; omega
          have hof : ∀ c : UInt8, UInt8.ofNat c.toNat = c := fun c => by simp
          obtain ⟨p, hp⟩ : ∃ p, 4 * i + j = p := ⟨_, rfl⟩
          have hpn : p + 1 = 4 * i + (j + 1) := by omega
          rw [hp] at hm4j hob hp32 hp32i hset hol ⊢
          (repeat (first | refine AWP.seq ?_ | refine AWP.block ?_ | (refine AWP.greg X_ok cl16 [0, 2, 3, 4, 5, 6, 7, 8, 9, 10, 12, 27, 37, 53, 59, 60, 61, 64, 65] (by ((repeat (first | simp only [W, eqq, ↓reduceIte, Nat.reduceEqDiff, Nat.reduceLT, Nat.reduceLeDiff, Nat.reduceAdd, Nat.reduceMul, Nat.reduceSub, Nat.reduceBEq, Int.reduceLE, Int.reduceLT, Int.reduceNeg, Int.reduceToNat, Int.reduceEq, Int.reduceBEq, Int.reduceBNe, Nat.reduceBNe, bne_self_eq_false, reduceCtorEq, gt_iff_lt, ge_iff_le, hj4, hj4', hm4, hm4j, hm8, hm24, hnn, hsh, u8_of_u32, hob, hp32, hp32i, hof, hset, hol, hkj, T.size] | (rewrite [if_pos]; rotate_left; focus (first | omega | (simp only [LN, hj4, hj4', hm4, hm4j, hm8, hm24, hnn, hsh, u8_of_u32, hob, hp32, hp32i, hof, hset, hol, hkj, T.size]; omega) | (refine ⟨?_, ?_⟩ <;> (simp only [LN, hj4, hj4', hm4, hm4j, hm8, hm24, hnn, hsh, u8_of_u32, hob, hp32, hp32i, hof, hset, hol, hkj, T.size] <;> omega)))) | (rewrite [if_neg]; rotate_left; focus (first | omega | (simp only [LN, hj4, hj4', hm4, hm4j, hm8, hm24, hnn, hsh, u8_of_u32, hob, hp32, hp32i, hof, hset, hol, hkj, T.size]; omega) | (refine ⟨?_, ?_⟩ <;> (simp only [LN, hj4, hj4', hm4, hm4j, hm8, hm24, hnn, hsh, u8_of_u32, hob, hp32, hp32i, hof, hset, hol, hkj, T.size] <;> omega)))))); with_reducible rfl)) ?_; try show AWP _ _ _ _ _ _) | (refine AWP.condT ?_ ?_; focus (simp only [W, eqq, ↓reduceIte, Nat.reduceEqDiff, Nat.reduceLT, Nat.reduceLeDiff, Nat.reduceAdd, Nat.reduceMul, Nat.reduceSub, Nat.reduceBEq, Int.reduceLE, Int.reduceLT, Int.reduceNeg, Int.reduceToNat, Int.reduceEq, Int.reduceBEq, Int.reduceBNe, Nat.reduceBNe, bne_self_eq_false, reduceCtorEq, gt_iff_lt, ge_iff_le, hj4, hj4', hm4, hm4j, hm8, hm24, hnn, hsh, u8_of_u32, hob, hp32, hp32i, hof, hset, hol, hkj, T.size]; done)) | (refine AWP.condF ?_ ?_; focus (simp only [W, eqq, ↓reduceIte, Nat.reduceEqDiff, Nat.reduceLT, Nat.reduceLeDiff, Nat.reduceAdd, Nat.reduceMul, Nat.reduceSub, Nat.reduceBEq, Int.reduceLE, Int.reduceLT, Int.reduceNeg, Int.reduceToNat, Int.reduceEq, Int.reduceBEq, Int.reduceBNe, Nat.reduceBNe, bne_self_eq_false, reduceCtorEq, gt_iff_lt, ge_iff_le, hj4, hj4', hm4, hm4j, hm8, hm24, hnn, hsh, u8_of_u32, hob, hp32, hp32i, hof, hset, hol, hkj, T.size]; done)) | (refine AWP.skip ?_; try show AWP _ _ _ _ _ _) | (refine AWP.exit ?_; try show AWP _ _ _ _ _ _)))
          exact ⟨⟨j + 1, by omega⟩, Weak.to [2, 7, 8, 9, 59, 60, 64] [0, 1, 2] (show okIds 1 [0, 1, 2] by decide) (by simp only [W, eqq, ↓reduceIte, Nat.reduceEqDiff, Nat.reduceLT, Nat.reduceLeDiff, Nat.reduceAdd, Nat.reduceMul, Nat.reduceSub, Nat.reduceBEq, Int.reduceLE, Int.reduceLT, Int.reduceNeg, Int.reduceToNat, Int.reduceEq, Int.reduceBEq, Int.reduceBNe, Nat.reduceBNe, bne_self_eq_false, reduceCtorEq, gt_iff_lt, ge_iff_le, hpn]), by simp only; omega⟩
        · obtain rfl : j = 4 := by omega
          have hpn : 4 * i + 4 = 4 * (i + 1) := by omega
          (repeat (first | refine AWP.seq ?_ | refine AWP.block ?_ | (refine AWP.greg X_ok cl16 [0, 2, 3, 4, 5, 6, 7, 8, 9, 10, 12, 27, 37, 53, 59, 60, 61, 64, 65] (by ((repeat (first | simp only [W, eqq, ↓reduceIte, Nat.reduceEqDiff, Nat.reduceLT, Nat.reduceLeDiff, Nat.reduceAdd, Nat.reduceMul, Nat.reduceSub, Nat.reduceBEq, Int.reduceLE, Int.reduceLT, Int.reduceNeg, Int.reduceToNat, Int.reduceEq, Int.reduceBEq, Int.reduceBNe, Nat.reduceBNe, bne_self_eq_false, reduceCtorEq, gt_iff_lt, ge_iff_le, hj4, hki] | (rewrite [if_pos]; rotate_left; focus (first | omega | (simp only [LN, hj4, hki]; omega) | (refine ⟨?_, ?_⟩ <;> (simp only [LN, hj4, hki] <;> omega)))) | (rewrite [if_neg]; rotate_left; focus (first | omega | (simp only [LN, hj4, hki]; omega) | (refine ⟨?_, ?_⟩ <;> (simp only [LN, hj4, hki] <;> omega)))))); with_reducible rfl)) ?_; try show AWP _ _ _ _ _ _) | (refine AWP.condT ?_ ?_; focus (simp only [W, eqq, ↓reduceIte, Nat.reduceEqDiff, Nat.reduceLT, Nat.reduceLeDiff, Nat.reduceAdd, Nat.reduceMul, Nat.reduceSub, Nat.reduceBEq, Int.reduceLE, Int.reduceLT, Int.reduceNeg, Int.reduceToNat, Int.reduceEq, Int.reduceBEq, Int.reduceBNe, Nat.reduceBNe, bne_self_eq_false, reduceCtorEq, gt_iff_lt, ge_iff_le, hj4, hki]; done)) | (refine AWP.condF ?_ ?_; focus (simp only [W, eqq, ↓reduceIte, Nat.reduceEqDiff, Nat.reduceLT, Nat.reduceLeDiff, Nat.reduceAdd, Nat.reduceMul, Nat.reduceSub, Nat.reduceBEq, Int.reduceLE, Int.reduceLT, Int.reduceNeg, Int.reduceToNat, Int.reduceEq, Int.reduceBEq, Int.reduceBNe, Nat.reduceBNe, bne_self_eq_false, reduceCtorEq, gt_iff_lt, ge_iff_le, hj4, hki]; done)) | (refine AWP.skip ?_; try show AWP _ _ _ _ _ _) | (refine AWP.exit ?_; try show AWP _ _ _ _ _ _)))
          exact ⟨⟨i + 1, by omega⟩, Weak.to [2, 7, 59, 60] [0, 1, 2] (show okIds 1 [0, 1, 2] by decide) (by simp only [W, eqq, ↓reduceIte, Nat.reduceEqDiff, Nat.reduceLT, Nat.reduceLeDiff, Nat.reduceAdd, Nat.reduceMul, Nat.reduceSub, Nat.reduceBEq, Int.reduceLE, Int.reduceLT, Int.reduceNeg, Int.reduceToNat, Int.reduceEq, Int.reduceBEq, Int.reduceBNe, Nat.reduceBNe, bne_self_eq_false, reduceCtorEq, gt_iff_lt, ge_iff_le, hpn]), by simp only; omega⟩
  · have hd' : (((L.length % 64 : Nat) : Int) != 56) = true := by simp; omega
    (repeat (first | refine AWP.seq ?_ | refine AWP.block ?_ | (refine AWP.greg X_ok cl16 [0, 2, 3, 4, 5, 6, 7, 8, 9, 10, 12, 27, 37, 53, 59, 60, 61, 64, 65] (by ((repeat (first | simp only [W, eqq, ↓reduceIte, Nat.reduceEqDiff, Nat.reduceLT, Nat.reduceLeDiff, Nat.reduceAdd, Nat.reduceMul, Nat.reduceSub, Nat.reduceBEq, Int.reduceLE, Int.reduceLT, Int.reduceNeg, Int.reduceToNat, Int.reduceEq, Int.reduceBEq, Int.reduceBNe, Nat.reduceBNe, bne_self_eq_false, reduceCtorEq, gt_iff_lt, ge_iff_le, hrem, hd', hLs] | (rewrite [if_pos]; rotate_left; focus (first | omega | (simp only [LN, hrem, hd', hLs]; omega) | (refine ⟨?_, ?_⟩ <;> (simp only [LN, hrem, hd', hLs] <;> omega)))) | (rewrite [if_neg]; rotate_left; focus (first | omega | (simp only [LN, hrem, hd', hLs]; omega) | (refine ⟨?_, ?_⟩ <;> (simp only [LN, hrem, hd', hLs] <;> omega)))))); with_reducible rfl)) ?_; try show AWP _ _ _ _ _ _) | (refine AWP.condT ?_ ?_; focus (simp only [W, eqq, ↓reduceIte, Nat.reduceEqDiff, Nat.reduceLT, Nat.reduceLeDiff, Nat.reduceAdd, Nat.reduceMul, Nat.reduceSub, Nat.reduceBEq, Int.reduceLE, Int.reduceLT, Int.reduceNeg, Int.reduceToNat, Int.reduceEq, Int.reduceBEq, Int.reduceBNe, Nat.reduceBNe, bne_self_eq_false, reduceCtorEq, gt_iff_lt, ge_iff_le, hrem, hd', hLs]; done)) | (refine AWP.condF ?_ ?_; focus (simp only [W, eqq, ↓reduceIte, Nat.reduceEqDiff, Nat.reduceLT, Nat.reduceLeDiff, Nat.reduceAdd, Nat.reduceMul, Nat.reduceSub, Nat.reduceBEq, Int.reduceLE, Int.reduceLT, Int.reduceNeg, Int.reduceToNat, Int.reduceEq, Int.reduceBEq, Int.reduceBNe, Nat.reduceBNe, bne_self_eq_false, reduceCtorEq, gt_iff_lt, ge_iff_le, hrem, hd', hLs]; done)) | (refine AWP.skip ?_; try show AWP _ _ _ _ _ _) | (refine AWP.exit ?_; try show AWP _ _ _ _ _ _)))
    exact ⟨⟨k + 1, by omega⟩, Weak.to [0, 2, 3] [0, 1, 4] (show okIds 1 [0, 1, 4] by decide) (by simp only [W, eqq, ↓reduceIte, Nat.reduceEqDiff, Nat.reduceLT, Nat.reduceLeDiff, Nat.reduceAdd, Nat.reduceMul, Nat.reduceSub, Nat.reduceBEq, Int.reduceLE, Int.reduceLT, Int.reduceNeg, Int.reduceToNat, Int.reduceEq, Int.reduceBEq, Int.reduceBNe, Nat.reduceBNe, bne_self_eq_false, reduceCtorEq, gt_iff_lt, ge_iff_le, hnx]), by simp only; omega⟩

end Go.Fw

end

section
/- Chapter 7: the hash of a whole message. -/
namespace Go.Fw
open Go Go.Proofs
set_option linter.unusedVariables false
set_option linter.unusedSimpArgs false

theorem eatS_app (s : S8) (l m : List UInt8) : ∀ k, 64 * k ≤ l.length → eatS s (l ++ m) k = eatS s l k
  | 0, _ => rfl
  | k + 1, h => by
    simp only [eatS]
    rw [eatS_app s l m k (by omega), List.drop_append_of_le_length (by omega), List.take_append_of_le_length (by simp; omega)]
theorem eatS_add (s : S8) (l : List UInt8) (k : Nat) : ∀ j, eatS (eatS s l k) (l.drop (64 * k)) j = eatS s l (k + j)
  | 0 => rfl
  | j + 1 => by
    rw [show k + (j + 1) = (k + j) + 1 by omega]
    simp only [eatS]
    rw [eatS_add s l k j, List.drop_drop]
    congr 3; omega

/-- A hash behind some bytes. -/
def restS (l : List UInt8) : List UInt8 := l.drop (64 * (l.length / 64))
def eatenS (l : List UInt8) : S8 := eatS h0S l (l.length / 64)
abbrev msgB (l : List UInt8) : Blk := hB (eatenS l) (restS l) l.length
def shaL (l : List UInt8) : List UInt8 := finS h0S l l.length

theorem restS_len (l : List UInt8) : (restS l).length ≤ 64 := by simp [restS]; omega
theorem rest_app (l b : List UInt8) : restS l ++ b = (l ++ b).drop (64 * (l.length / 64)) := by
  unfold restS; rw [List.drop_append_of_le_length (by omega)]

theorem write_c (l b : List UInt8) (h : l.length ≤ 1000000000000) (hb : b.length ≤ 1000000000) :
    G15 [.bx (.t (.st [.ar 8 1 ((eatenS l).l.map u32T), .by (restS l), .int .u64 (l.length : Int)]))] [.ptr 0 0 [], .t (.by b)] = some ([msgB (l ++ b)], .tup []) := by
  simp only [G15, asS8_map]
  rw [if_pos ⟨by omega, by omega, restS_len l, hb⟩]
  have hq : (l ++ b).length / 64 = l.length / 64 + (restS l ++ b).length / 64 := by simp [restS]; omega
  have h1 : eatS (eatenS l) (restS l ++ b) ((restS l ++ b).length / 64) = eatenS (l ++ b) := by
    unfold eatenS
    rw [hq, ← eatS_add, rest_app l b, eatS_app h0S l b _ (by omega)]
  have h2 : (restS l ++ b).drop (64 * ((restS l ++ b).length / 64)) = restS (l ++ b) := by
    show _ = (l ++ b).drop (64 * ((l ++ b).length / 64))
    rw [hq, rest_app l b, List.drop_drop]; congr 1; omega
  rw [h1, h2]
  simp only [msgB, hB, List.length_append, Int.natCast_add]

theorem fin_c (l : List UInt8) : finS (eatenS l) (restS l) l.length = shaL l := by
  have hk : padK (restS l).length = padK l.length := by simp [restS, padK]; omega
  have hp : padS (restS l) l.length = (padS l l.length).drop (64 * (l.length / 64)) := by
    simp only [padS, hk]
    rw [List.append_assoc, rest_app, List.append_assoc]
  have hl : (padS l l.length).length / 64 = l.length / 64 + (padS (restS l) l.length).length / 64 := by
    rw [hp]
    have : l.length ≤ (padS l l.length).length := by simp only [padS, List.length_append]; omega
    simp only [List.length_drop]; omega
  have he : eatenS l = eatS h0S (padS l l.length) (l.length / 64) := by
    simp only [eatenS, padS]
    rw [List.append_assoc, eatS_app h0S l _ _ (by omega)]
  simp only [shaL, finS]
  rw [hl, ← eatS_add, ← he, ← hp]

noncomputable def G16 : GFun
  | [], [.t .nilp] => some ([], .t (.ba 32 (shaL [])))
  | [.bx (.t (.st [.ar 8 1 xs, .by r, .int .u64 n]))], [.ptr 0 0 []] => G16r [.bx (.t (.st [.ar 8 1 xs, .by r, .int .u64 n]))] [.ptr 0 0 []]
  | _, _ => none

theorem sum_c (l : List UInt8) (h : l.length ≤ 1000000000000) :
    G16r [.bx (.t (.st [.ar 8 1 ((eatenS l).l.map u32T), .by (restS l), .int .u64 (l.length : Int)]))] [.ptr 0 0 []] = some ([msgB l], .t (.ba 32 (shaL l))) := by
  simp only [G16r, asS8_map]
  rw [if_pos ⟨by omega, by omega, restS_len l⟩, Int.toNat_natCast, fin_c]
theorem sum_0 : G16r [.bx (.t (.st [.ar 8 1 (hS.map u32T), .by [], .int .u64 0]))] [.ptr 0 0 []] = some ([.bx (.t (.st [.ar 8 1 (hS.map u32T), .by [], .int .u64 0]))], .t (.ba 32 (shaL []))) := sum_c [] (by simp)

theorem cl16b : GClOk Try.prog [(14, ⟨[], treeG F14⟩), (16, ⟨[true], G16r⟩), (28, ⟨[true, false], G28⟩)] := .cons c14.g (.cons g16r (.cons g28 (.nil _)))

theorem g16 : GCon Try.prog 16 G16 := by
  
  refine ⟨g16r.1, fun HB xs H' r hG => ?_⟩
  have key := gconc (f := 16) E_ok (rs := [.cell 2 24]) Try.func16 rfl Try.ntmps16 (by kernel_rfl) rfl (by decide) (fun HB xs => match HB, xs with | [], [.t .nilp] => some ([], .t (.ba 32 (shaL []))) | _, _ => none) (np := 1) (fun HB xs h => by split <;> first | rfl | (simp at h; done)) (fun HB xs H r hG hwf hex => by
    split at hG <;> try (cases hG; done)
    cases hG
    (repeat (first | refine AWP.seq ?_ | refine AWP.block ?_ | (refine AWP.greg X_ok cl16b [0, 2, 3, 4, 5, 6, 7, 8, 9, 10, 12, 27, 37, 53, 59, 60, 61, 64, 65] (by ((repeat (first | simp only [W, eqq, ↓reduceIte, Nat.reduceEqDiff, Nat.reduceLT, Nat.reduceLeDiff, Nat.reduceAdd, Nat.reduceMul, Nat.reduceSub, Nat.reduceBEq, Int.reduceLE, Int.reduceLT, Int.reduceNeg, Int.reduceToNat, Int.reduceEq, Int.reduceBEq, Int.reduceBNe, Nat.reduceBNe, bne_self_eq_false, reduceCtorEq, gt_iff_lt, ge_iff_le, gentry, F14, sum_0] | (rewrite [if_pos]; rotate_left; focus (first | omega | (simp only [LN, gentry, F14, sum_0]; omega) | (refine ⟨?_, ?_⟩ <;> (simp only [LN, gentry, F14, sum_0] <;> omega)))) | (rewrite [if_neg]; rotate_left; focus (first | omega | (simp only [LN, gentry, F14, sum_0]; omega) | (refine ⟨?_, ?_⟩ <;> (simp only [LN, gentry, F14, sum_0] <;> omega)))))); with_reducible rfl)) ?_; try show AWP _ _ _ _ _ _) | (refine AWP.condT ?_ ?_; focus (simp only [W, eqq, ↓reduceIte, Nat.reduceEqDiff, Nat.reduceLT, Nat.reduceLeDiff, Nat.reduceAdd, Nat.reduceMul, Nat.reduceSub, Nat.reduceBEq, Int.reduceLE, Int.reduceLT, Int.reduceNeg, Int.reduceToNat, Int.reduceEq, Int.reduceBEq, Int.reduceBNe, Nat.reduceBNe, bne_self_eq_false, reduceCtorEq, gt_iff_lt, ge_iff_le, gentry, F14, sum_0]; done)) | (refine AWP.condF ?_ ?_; focus (simp only [W, eqq, ↓reduceIte, Nat.reduceEqDiff, Nat.reduceLT, Nat.reduceLeDiff, Nat.reduceAdd, Nat.reduceMul, Nat.reduceSub, Nat.reduceBEq, Int.reduceLE, Int.reduceLT, Int.reduceNeg, Int.reduceToNat, Int.reduceEq, Int.reduceBEq, Int.reduceBNe, Nat.reduceBNe, bne_self_eq_false, reduceCtorEq, gt_iff_lt, ge_iff_le, gentry, F14, sum_0]; done)) | (refine AWP.skip ?_; try show AWP _ _ _ _ _ _) | (refine AWP.exit ?_; try show AWP _ _ _ _ _ _)))
    refine AWP.ret ?_; show cretQ _ _ _ _ _ _ _; exact ⟨.inr rfl, [], [], (by decide), by simp only [cres, resVals, RS.val, thawV, freezeOnes, freezeOne, renH, one, AV.ren, AV.renL, Blk.ren, W, eqq, ↓reduceIte, Nat.reduceEqDiff, Nat.reduceLT, Nat.reduceLeDiff, Nat.reduceAdd, Nat.reduceMul, Nat.reduceSub, Nat.reduceBEq, Int.reduceLE, Int.reduceLT, Int.reduceNeg, Int.reduceToNat, Int.reduceEq, Int.reduceBEq, Int.reduceBNe, Nat.reduceBNe, bne_self_eq_false, reduceCtorEq, gt_iff_lt, ge_iff_le]⟩)
  unfold G16 at hG
  split at hG
  · exact key.2 [] [.t .nilp] H' r hG
  · exact g16r.2 _ _ H' r hG
  · cases hG

end Go.Fw

end

section
/- Chapter 7: Sum, Double, Tagged. -/
namespace Go.Fw
open Go Go.Proofs
set_option linter.unusedVariables false
set_option linter.unusedSimpArgs false

theorem shaL_len (l : List UInt8) : (shaL l).length = 32 := by simp [shaL, finS, outS]

noncomputable def F11 : Fun
  | [.by b] => if b.length ≤ 1000000000 then some ([], .t (.ba 32 (shaL b))) else none
  | _ => none

theorem cl11 : GClOk Try.prog [(14, ⟨[], treeG F14⟩), (15, ⟨[true, false], G15⟩), (16, ⟨[true], G16⟩)] := .cons c14.g (.cons g15 (.cons g16 (.nil _)))

theorem msg_0 : msgB [] = .bx (.t (.st [.ar 8 1 (hS.map u32T), .by [], .int .u64 0])) := rfl

theorem c11 : ACon Try.prog 11 F11 := by
  refine aconc E_ok (rs := [.cell 2 24]) Try.func11 rfl Try.ntmps11 (by kernel_rfl) rfl (by decide) F11 (np := 1) ?_ ?_
  · intro ts h; unfold F11; split <;> first | rfl | (simp at h; done)
  intro ts H r hF hwf
  unfold F11 at hF
  split at hF <;> try (cases hF; done)
  rename_i b
  split at hF
  case isFalse => cases hF
  rename_i hb
  cases hF
  have hw : G15 [.bx (.t (.st [.ar 8 1 (hS.map u32T), .by [], .int .u64 0]))] [.ptr 0 0 [], .t (.by b)] = some ([msgB b], .tup []) := write_c [] b (by simp) hb
  have hs : G16 [msgB b] [.ptr 0 0 []] = some ([msgB b], .t (.ba 32 (shaL b))) := sum_c b (by omega)
  (repeat (first | refine AWP.seq ?_ | refine AWP.block ?_ | (refine AWP.greg X_ok cl11 [0, 2, 3] (by ((repeat (first | simp only [W, eqq, ↓reduceIte, Nat.reduceEqDiff, Nat.reduceLT, Nat.reduceLeDiff, Nat.reduceAdd, Nat.reduceMul, Nat.reduceSub, Nat.reduceBEq, Int.reduceLE, Int.reduceLT, Int.reduceNeg, Int.reduceToNat, Int.reduceEq, Int.reduceBEq, Int.reduceBNe, Nat.reduceBNe, bne_self_eq_false, reduceCtorEq, gt_iff_lt, ge_iff_le, F14, hw] | (rewrite [if_pos]; rotate_left; focus (first | omega | (simp only [LN, F14, hw]; omega) | (refine ⟨?_, ?_⟩ <;> (simp only [LN, F14, hw] <;> omega)))) | (rewrite [if_neg]; rotate_left; focus (first | omega | (simp only [LN, F14, hw]; omega) | (refine ⟨?_, ?_⟩ <;> (simp only [LN, F14, hw] <;> omega)))))); with_reducible rfl)) ?_; try show AWP _ _ _ _ _ _) | (refine AWP.condT ?_ ?_; focus (simp only [W, eqq, ↓reduceIte, Nat.reduceEqDiff, Nat.reduceLT, Nat.reduceLeDiff, Nat.reduceAdd, Nat.reduceMul, Nat.reduceSub, Nat.reduceBEq, Int.reduceLE, Int.reduceLT, Int.reduceNeg, Int.reduceToNat, Int.reduceEq, Int.reduceBEq, Int.reduceBNe, Nat.reduceBNe, bne_self_eq_false, reduceCtorEq, gt_iff_lt, ge_iff_le, F14, hw]; done)) | (refine AWP.condF ?_ ?_; focus (simp only [W, eqq, ↓reduceIte, Nat.reduceEqDiff, Nat.reduceLT, Nat.reduceLeDiff, Nat.reduceAdd, Nat.reduceMul, Nat.reduceSub, Nat.reduceBEq, Int.reduceLE, Int.reduceLT, Int.reduceNeg, Int.reduceToNat, Int.reduceEq, Int.reduceBEq, Int.reduceBNe, Nat.reduceBNe, bne_self_eq_false, reduceCtorEq, gt_iff_lt, ge_iff_le, F14, hw]; done)) | (refine AWP.skip ?_; try show AWP _ _ _ _ _ _) | (refine AWP.exit ?_; try show AWP _ _ _ _ _ _)))
  (repeat (first | refine AWP.seq ?_ | refine AWP.block ?_ | (refine AWP.greg X_ok cl11 [0, 2, 3] (by ((repeat (first | simp only [W, eqq, ↓reduceIte, Nat.reduceEqDiff, Nat.reduceLT, Nat.reduceLeDiff, Nat.reduceAdd, Nat.reduceMul, Nat.reduceSub, Nat.reduceBEq, Int.reduceLE, Int.reduceLT, Int.reduceNeg, Int.reduceToNat, Int.reduceEq, Int.reduceBEq, Int.reduceBNe, Nat.reduceBNe, bne_self_eq_false, reduceCtorEq, gt_iff_lt, ge_iff_le, hs] | (rewrite [if_pos]; rotate_left; focus (first | omega | (simp only [LN, hs]; omega) | (refine ⟨?_, ?_⟩ <;> (simp only [LN, hs] <;> omega)))) | (rewrite [if_neg]; rotate_left; focus (first | omega | (simp only [LN, hs]; omega) | (refine ⟨?_, ?_⟩ <;> (simp only [LN, hs] <;> omega)))))); with_reducible rfl)) ?_; try show AWP _ _ _ _ _ _) | (refine AWP.condT ?_ ?_; focus (simp only [W, eqq, ↓reduceIte, Nat.reduceEqDiff, Nat.reduceLT, Nat.reduceLeDiff, Nat.reduceAdd, Nat.reduceMul, Nat.reduceSub, Nat.reduceBEq, Int.reduceLE, Int.reduceLT, Int.reduceNeg, Int.reduceToNat, Int.reduceEq, Int.reduceBEq, Int.reduceBNe, Nat.reduceBNe, bne_self_eq_false, reduceCtorEq, gt_iff_lt, ge_iff_le, hs]; done)) | (refine AWP.condF ?_ ?_; focus (simp only [W, eqq, ↓reduceIte, Nat.reduceEqDiff, Nat.reduceLT, Nat.reduceLeDiff, Nat.reduceAdd, Nat.reduceMul, Nat.reduceSub, Nat.reduceBEq, Int.reduceLE, Int.reduceLT, Int.reduceNeg, Int.reduceToNat, Int.reduceEq, Int.reduceBEq, Int.reduceBNe, Nat.reduceBNe, bne_self_eq_false, reduceCtorEq, gt_iff_lt, ge_iff_le, hs]; done)) | (refine AWP.skip ?_; try show AWP _ _ _ _ _ _) | (refine AWP.exit ?_; try show AWP _ _ _ _ _ _)))
  refine AWP.ret ?_; show cretQ _ _ _ _ _ _ _; exact ⟨.inr rfl, [], [], (by decide), by simp only [cres, resVals, RS.val, thawV, freezeOnes, freezeOne, renH, one, AV.ren, AV.renL, Blk.ren, W, eqq, ↓reduceIte, Nat.reduceEqDiff, Nat.reduceLT, Nat.reduceLeDiff, Nat.reduceAdd, Nat.reduceMul, Nat.reduceSub, Nat.reduceBEq, Int.reduceLE, Int.reduceLT, Int.reduceNeg, Int.reduceToNat, Int.reduceEq, Int.reduceBEq, Int.reduceBNe, Nat.reduceBNe, bne_self_eq_false, reduceCtorEq, gt_iff_lt, ge_iff_le]⟩

theorem shasum_c {b : List UInt8} (h : b.length ≤ 1000000000) : F11 [.by b] = some ([], .t (.ba 32 (shaL b))) := if_pos h

noncomputable def F18 : Fun
  | [.by b] => if b.length ≤ 1000000000 then some ([], .t (.ba 32 (shaL (shaL b)))) else none
  | _ => none

theorem cl18 : GClOk Try.prog [(11, ⟨[false], treeG F11⟩)] := .cons c11.g (.nil _)

theorem c18 : ACon Try.prog 18 F18 := by
  refine aconc E_ok (rs := [.cell 2 24]) Try.func18 rfl Try.ntmps18 (by kernel_rfl) rfl (by decide) F18 (np := 1) ?_ ?_
  · intro ts h; unfold F18; split <;> first | rfl | (simp at h; done)
  intro ts H r hF hwf
  unfold F18 at hF
  split at hF <;> try (cases hF; done)
  rename_i b
  split at hF
  case isFalse => cases hF
  rename_i hb
  cases hF
  have h1 := shasum_c hb
  have hl := shaL_len b
  have h2 : F11 [.by (shaL b)] = some ([], .t (.ba 32 (shaL (shaL b)))) := shasum_c (by omega)
  generalize shaL (shaL b) = y at *
  obtain ⟨x, hx⟩ : ∃ x, shaL b = x := ⟨_, rfl⟩
  rw [hx] at h1 hl h2
  have ht : x.take 32 = x := List.take_of_length_le (by omega)
  (repeat (first | refine AWP.seq ?_ | refine AWP.block ?_ | (refine AWP.greg X_ok cl18 [0, 2, 3] (by ((repeat (first | simp only [W, eqq, ↓reduceIte, Nat.reduceEqDiff, Nat.reduceLT, Nat.reduceLeDiff, Nat.reduceAdd, Nat.reduceMul, Nat.reduceSub, Nat.reduceBEq, Int.reduceLE, Int.reduceLT, Int.reduceNeg, Int.reduceToNat, Int.reduceEq, Int.reduceBEq, Int.reduceBNe, Nat.reduceBNe, bne_self_eq_false, reduceCtorEq, gt_iff_lt, ge_iff_le, h1, hl, h2, ht] | (rewrite [if_pos]; rotate_left; focus (first | omega | (simp only [LN, h1, hl, h2, ht]; omega) | (refine ⟨?_, ?_⟩ <;> (simp only [LN, h1, hl, h2, ht] <;> omega)))) | (rewrite [if_neg]; rotate_left; focus (first | omega | (simp only [LN, h1, hl, h2, ht]; omega) | (refine ⟨?_, ?_⟩ <;> (simp only [LN, h1, hl, h2, ht] <;> omega)))))); with_reducible rfl)) ?_; try show AWP _ _ _ _ _ _) | (refine AWP.condT ?_ ?_; focus (simp only [W, eqq, ↓reduceIte, Nat.reduceEqDiff, Nat.reduceLT, Nat.reduceLeDiff, Nat.reduceAdd, Nat.reduceMul, Nat.reduceSub, Nat.reduceBEq, Int.reduceLE, Int.reduceLT, Int.reduceNeg, Int.reduceToNat, Int.reduceEq, Int.reduceBEq, Int.reduceBNe, Nat.reduceBNe, bne_self_eq_false, reduceCtorEq, gt_iff_lt, ge_iff_le, h1, hl, h2, ht]; done)) | (refine AWP.condF ?_ ?_; focus (simp only [W, eqq, ↓reduceIte, Nat.reduceEqDiff, Nat.reduceLT, Nat.reduceLeDiff, Nat.reduceAdd, Nat.reduceMul, Nat.reduceSub, Nat.reduceBEq, Int.reduceLE, Int.reduceLT, Int.reduceNeg, Int.reduceToNat, Int.reduceEq, Int.reduceBEq, Int.reduceBNe, Nat.reduceBNe, bne_self_eq_false, reduceCtorEq, gt_iff_lt, ge_iff_le, h1, hl, h2, ht]; done)) | (refine AWP.skip ?_; try show AWP _ _ _ _ _ _) | (refine AWP.exit ?_; try show AWP _ _ _ _ _ _)))
  refine AWP.ret ?_; show cretQ _ _ _ _ _ _ _; exact ⟨.inr rfl, [], [], (by decide), by simp only [cres, resVals, RS.val, thawV, freezeOnes, freezeOne, renH, one, AV.ren, AV.renL, Blk.ren, W, eqq, ↓reduceIte, Nat.reduceEqDiff, Nat.reduceLT, Nat.reduceLeDiff, Nat.reduceAdd, Nat.reduceMul, Nat.reduceSub, Nat.reduceBEq, Int.reduceLE, Int.reduceLT, Int.reduceNeg, Int.reduceToNat, Int.reduceEq, Int.reduceBEq, Int.reduceBNe, Nat.reduceBNe, bne_self_eq_false, reduceCtorEq, gt_iff_lt, ge_iff_le]⟩

/-- The hash of bytes behind a tag. -/
def tagL (tag b : List UInt8) : List UInt8 := shaL (shaL tag ++ shaL tag ++ b)

noncomputable def F20 : Fun
  | [.str tag, .by b] => if b.length ≤ 1000000000 ∧ tag.length ≤ 1000000000 then some ([], .t (.ba 32 (tagL tag b))) else none
  | _ => none

theorem cl20 : GClOk Try.prog [(11, ⟨[false], treeG F11⟩), (14, ⟨[], treeG F14⟩), (15, ⟨[true, false], G15⟩), (16, ⟨[true], G16⟩)] := .cons c11.g (.cons c14.g (.cons g15 (.cons g16 (.nil _))))

theorem write_c' {l b : List UInt8} (h : l.length ≤ 1000000000000) (hb : b.length ≤ 1000000000) :
    G15 [msgB l] [.ptr 0 0 [], .t (.by b)] = some ([msgB (l ++ b)], .tup []) := write_c l b h hb

set_option maxHeartbeats 1000000 in
theorem c20 : ACon Try.prog 20 F20 := by
  refine aconc E_ok (rs := [.cell 4 24]) Try.func20 rfl Try.ntmps20 (by kernel_rfl) rfl (by decide) F20 (np := 2) ?_ ?_
  · intro ts h; unfold F20; split <;> first | rfl | (simp at h; done)
  intro ts H r hF hwf
  unfold F20 at hF
  split at hF <;> try (cases hF; done)
  rename_i tag b
  split at hF
  case isFalse => cases hF
  rename_i hc
  obtain ⟨hb, ht⟩ := hc
  cases hF
  have h1 := shasum_c ht
  have hl := shaL_len tag
  unfold tagL
  obtain ⟨x, hx⟩ : ∃ x, shaL tag = x := ⟨_, rfl⟩
  rw [hx] at h1 hl ⊢
  have hw1 : G15 [.bx (.t (.st [.ar 8 1 (hS.map u32T), .by [], .int .u64 0]))] [.ptr 0 0 [], .t (.by x)] = some ([msgB x], .tup []) := write_c [] x (by simp) (by omega)
  have hw2 : G15 [msgB x] [.ptr 0 0 [], .t (.by x)] = some ([msgB (x ++ x)], .tup []) := write_c' (by omega) (by omega)
  have hw3 : G15 [msgB (x ++ x)] [.ptr 0 0 [], .t (.by b)] = some ([msgB (x ++ x ++ b)], .tup []) := write_c' (by simp; omega) hb
  have hs : G16 [msgB (x ++ x ++ b)] [.ptr 0 0 []] = some ([msgB (x ++ x ++ b)], .t (.ba 32 (shaL (x ++ x ++ b)))) := sum_c (x ++ x ++ b) (by simp; omega)
  have htag : tag.length ≤ 281474976710656 := by omega
  have ht : x.take 32 = x := List.take_of_length_le (by omega)
  (repeat (first | refine AWP.seq ?_ | refine AWP.block ?_ | (refine AWP.greg X_ok cl20 [0, 1, 4, 5, 6] (by ((repeat (first | simp only [W, eqq, ↓reduceIte, Nat.reduceEqDiff, Nat.reduceLT, Nat.reduceLeDiff, Nat.reduceAdd, Nat.reduceMul, Nat.reduceSub, Nat.reduceBEq, Int.reduceLE, Int.reduceLT, Int.reduceNeg, Int.reduceToNat, Int.reduceEq, Int.reduceBEq, Int.reduceBNe, Nat.reduceBNe, bne_self_eq_false, reduceCtorEq, gt_iff_lt, ge_iff_le, F14, h1, ht, hw1, hw2, hw3, hs, htag] | (rewrite [if_pos]; rotate_left; focus (first | omega | (simp only [LN, F14, h1, ht, hw1, hw2, hw3, hs, htag]; omega) | (refine ⟨?_, ?_⟩ <;> (simp only [LN, F14, h1, ht, hw1, hw2, hw3, hs, htag] <;> omega)))) | (rewrite [if_neg]; rotate_left; focus (first | omega | (simp only [LN, F14, h1, ht, hw1, hw2, hw3, hs, htag]; omega) | (refine ⟨?_, ?_⟩ <;> (simp only [LN, F14, h1, ht, hw1, hw2, hw3, hs, htag] <;> omega)))))); with_reducible rfl)) ?_; try show AWP _ _ _ _ _ _) | (refine AWP.condT ?_ ?_; focus (simp only [W, eqq, ↓reduceIte, Nat.reduceEqDiff, Nat.reduceLT, Nat.reduceLeDiff, Nat.reduceAdd, Nat.reduceMul, Nat.reduceSub, Nat.reduceBEq, Int.reduceLE, Int.reduceLT, Int.reduceNeg, Int.reduceToNat, Int.reduceEq, Int.reduceBEq, Int.reduceBNe, Nat.reduceBNe, bne_self_eq_false, reduceCtorEq, gt_iff_lt, ge_iff_le, F14, h1, ht, hw1, hw2, hw3, hs, htag]; done)) | (refine AWP.condF ?_ ?_; focus (simp only [W, eqq, ↓reduceIte, Nat.reduceEqDiff, Nat.reduceLT, Nat.reduceLeDiff, Nat.reduceAdd, Nat.reduceMul, Nat.reduceSub, Nat.reduceBEq, Int.reduceLE, Int.reduceLT, Int.reduceNeg, Int.reduceToNat, Int.reduceEq, Int.reduceBEq, Int.reduceBNe, Nat.reduceBNe, bne_self_eq_false, reduceCtorEq, gt_iff_lt, ge_iff_le, F14, h1, ht, hw1, hw2, hw3, hs, htag]; done)) | (refine AWP.skip ?_; try show AWP _ _ _ _ _ _) | (refine AWP.exit ?_; try show AWP _ _ _ _ _ _)))
  refine AWP.ret ?_; show cretQ _ _ _ _ _ _ _; exact ⟨.inr rfl, [], [], (by decide), by simp only [cres, resVals, RS.val, thawV, freezeOnes, freezeOne, renH, one, AV.ren, AV.renL, Blk.ren, W, eqq, ↓reduceIte, Nat.reduceEqDiff, Nat.reduceLT, Nat.reduceLeDiff, Nat.reduceAdd, Nat.reduceMul, Nat.reduceSub, Nat.reduceBEq, Int.reduceLE, Int.reduceLT, Int.reduceNeg, Int.reduceToNat, Int.reduceEq, Int.reduceBEq, Int.reduceBNe, Nat.reduceBNe, bne_self_eq_false, reduceCtorEq, gt_iff_lt, ge_iff_le]⟩

theorem abc_0 : (shaL [97, 98, 99]).getD 0 0 = 186 ∧ (shaL [97, 98, 99]).getD 31 0 = 173 ∧ (shaL []).getD 0 0 = 227 ∧ (shaL []).getD 31 0 = 85 := by decide +kernel

def F10 : Fun
  | [] => some ([], .t (.bool true))
  | _ => none

theorem cl10 : GClOk Try.prog [(11, ⟨[false], treeG F11⟩)] := .cons c11.g (.nil _)

theorem c10 : ACon Try.prog 10 F10 := by
  refine aconc E_ok (rs := [.tmp 0 4]) Try.func10 rfl Try.ntmps10 (by kernel_rfl) rfl (by decide) F10 (np := 0) ?_ ?_
  · intro ts h; unfold F10; split <;> first | rfl | (simp at h; done)
  intro ts H r hF hwf
  unfold F10 at hF
  split at hF <;> try (cases hF; done)
  cases hF
  have h1 : F11 [.by [97, 98, 99]] = some ([], .t (.ba 32 (shaL [97, 98, 99]))) := shasum_c (by simp)
  have h2 : F11 [.by []] = some ([], .t (.ba 32 (shaL []))) := shasum_c (by simp)
  have l1 := shaL_len [97, 98, 99]
  have l2 := shaL_len []
  obtain ⟨a0, a1, a2, a3⟩ := abc_0
  obtain ⟨x, hx⟩ : ∃ x, shaL [97, 98, 99] = x := ⟨_, rfl⟩
  obtain ⟨y, hy⟩ : ∃ y, shaL [] = y := ⟨_, rfl⟩
  rw [hx] at h1 l1 a0 a1
  rw [hy] at h2 l2 a2 a3
  have b0 : ((x.getD 0 0).toNat : Int) = 186 := by rw [a0]; rfl
  have b1 : ((x.getD 31 0).toNat : Int) = 173 := by rw [a1]; rfl
  have b2 : ((y.getD 0 0).toNat : Int) = 227 := by rw [a2]; rfl
  have b3 : ((y.getD 31 0).toNat : Int) = 85 := by rw [a3]; rfl
  have e1 : (UInt8.ofNat 97 : UInt8) = 97 := rfl
  have e2 : (UInt8.ofNat 98 : UInt8) = 98 := rfl
  have e3 : (UInt8.ofNat 99 : UInt8) = 99 := rfl
  (repeat (first | refine AWP.seq ?_ | refine AWP.block ?_ | (refine AWP.greg X_ok cl10 [0, 1, 2] (by ((repeat (first | simp only [W, eqq, ↓reduceIte, Nat.reduceEqDiff, Nat.reduceLT, Nat.reduceLeDiff, Nat.reduceAdd, Nat.reduceMul, Nat.reduceSub, Nat.reduceBEq, Int.reduceLE, Int.reduceLT, Int.reduceNeg, Int.reduceToNat, Int.reduceEq, Int.reduceBEq, Int.reduceBNe, Nat.reduceBNe, bne_self_eq_false, reduceCtorEq, gt_iff_lt, ge_iff_le, h1, h2, l1, l2, b0, b1, b2, b3, e1, e2, e3, u8] | (rewrite [if_pos]; rotate_left; focus (first | omega | (simp only [LN, h1, h2, l1, l2, b0, b1, b2, b3, e1, e2, e3, u8]; omega) | (refine ⟨?_, ?_⟩ <;> (simp only [LN, h1, h2, l1, l2, b0, b1, b2, b3, e1, e2, e3, u8] <;> omega)))) | (rewrite [if_neg]; rotate_left; focus (first | omega | (simp only [LN, h1, h2, l1, l2, b0, b1, b2, b3, e1, e2, e3, u8]; omega) | (refine ⟨?_, ?_⟩ <;> (simp only [LN, h1, h2, l1, l2, b0, b1, b2, b3, e1, e2, e3, u8] <;> omega)))))); with_reducible rfl)) ?_; try show AWP _ _ _ _ _ _) | (refine AWP.condT ?_ ?_; focus (simp only [W, eqq, ↓reduceIte, Nat.reduceEqDiff, Nat.reduceLT, Nat.reduceLeDiff, Nat.reduceAdd, Nat.reduceMul, Nat.reduceSub, Nat.reduceBEq, Int.reduceLE, Int.reduceLT, Int.reduceNeg, Int.reduceToNat, Int.reduceEq, Int.reduceBEq, Int.reduceBNe, Nat.reduceBNe, bne_self_eq_false, reduceCtorEq, gt_iff_lt, ge_iff_le, h1, h2, l1, l2, b0, b1, b2, b3, e1, e2, e3, u8]; done)) | (refine AWP.condF ?_ ?_; focus (simp only [W, eqq, ↓reduceIte, Nat.reduceEqDiff, Nat.reduceLT, Nat.reduceLeDiff, Nat.reduceAdd, Nat.reduceMul, Nat.reduceSub, Nat.reduceBEq, Int.reduceLE, Int.reduceLT, Int.reduceNeg, Int.reduceToNat, Int.reduceEq, Int.reduceBEq, Int.reduceBNe, Nat.reduceBNe, bne_self_eq_false, reduceCtorEq, gt_iff_lt, ge_iff_le, h1, h2, l1, l2, b0, b1, b2, b3, e1, e2, e3, u8]; done)) | (refine AWP.skip ?_; try show AWP _ _ _ _ _ _) | (refine AWP.exit ?_; try show AWP _ _ _ _ _ _)))
  refine AWP.ret ?_; show cretQ _ _ _ _ _ _ _; exact ⟨.inr rfl, [], [], (by decide), by simp only [cres, resVals, RS.val, thawV, freezeOnes, freezeOne, renH, one, AV.ren, AV.renL, Blk.ren, W, eqq, ↓reduceIte, Nat.reduceEqDiff, Nat.reduceLT, Nat.reduceLeDiff, Nat.reduceAdd, Nat.reduceMul, Nat.reduceSub, Nat.reduceBEq, Int.reduceLE, Int.reduceLT, Int.reduceNeg, Int.reduceToNat, Int.reduceEq, Int.reduceBEq, Int.reduceBNe, Nat.reduceBNe, bne_self_eq_false, reduceCtorEq, gt_iff_lt, ge_iff_le]⟩

end Go.Fw

end

section
/- Chapter 7: the laws ShaNil, ShaTags, ShaPieces: their code walked. -/
namespace Go.Fw
open Go Go.Proofs
set_option linter.unusedVariables false
set_option linter.unusedSimpArgs false

def F7 : Fun
  | [.by b] => some ([], .t (.bool true))
  | _ => none

theorem cl7 : GClOk Try.prog [(10, ⟨[], treeG F10⟩), (11, ⟨[false], treeG F11⟩), (15, ⟨[true, false], G15⟩), (16, ⟨[true], G16⟩), (17, ⟨[true], G17⟩)] := .cons c10.g (.cons c11.g (.cons g15 (.cons g16 (.cons g17 (.nil _)))))

theorem c7 : ACon Try.prog 7 F7 := by
  refine acon (E := E) (rs := [(2, 4)]) Try.func7 rfl Try.ntmps7 (by kernel_rfl) rfl (by decide) F7 (np := 1) ?_ ?_
  · intro ts h; unfold F7; split <;> first | rfl | (simp at h; done)
  intro ts H r hF hwf
  unfold F7 at hF
  split at hF <;> try (cases hF; done)
  rename_i b
  cases hF
  have hw : G15 [] [.t .nilp, .t (.by b)] = some ([], .tup []) := rfl
  have hs : G16 [] [.t .nilp] = some ([], .t (.ba 32 (shaL []))) := rfl
  have hn : F11 [.by []] = some ([], .t (.ba 32 (shaL []))) := shasum_c (by simp)
  have hl : G17 [] [.t .nilp] = some ([], .t (.int .u64 0)) := rfl
  obtain ⟨x, hx⟩ : ∃ x, shaL [] = x := ⟨_, rfl⟩
  rw [hx] at hs hn
  (repeat (first | refine AWP.seq ?_ | refine AWP.block ?_ | (refine AWP.greg X_ok cl7 [0, 2, 3] (by ((repeat (first | simp only [W, eqq, ↓reduceIte, Nat.reduceEqDiff, Nat.reduceLT, Nat.reduceLeDiff, Nat.reduceAdd, Nat.reduceMul, Nat.reduceSub, Nat.reduceBEq, Int.reduceLE, Int.reduceLT, Int.reduceNeg, Int.reduceToNat, Int.reduceEq, Int.reduceBEq, Int.reduceBNe, Nat.reduceBNe, bne_self_eq_false, reduceCtorEq, gt_iff_lt, ge_iff_le, hw, hs, hn, hl, F10] | (rewrite [if_pos]; rotate_left; focus (first | omega | (simp only [LN, hw, hs, hn, hl, F10]; omega) | (refine ⟨?_, ?_⟩ <;> (simp only [LN, hw, hs, hn, hl, F10] <;> omega)))) | (rewrite [if_neg]; rotate_left; focus (first | omega | (simp only [LN, hw, hs, hn, hl, F10]; omega) | (refine ⟨?_, ?_⟩ <;> (simp only [LN, hw, hs, hn, hl, F10] <;> omega)))))); with_reducible rfl)) ?_; try show AWP _ _ _ _ _ _) | (refine AWP.condT ?_ ?_; focus (simp only [W, eqq, ↓reduceIte, Nat.reduceEqDiff, Nat.reduceLT, Nat.reduceLeDiff, Nat.reduceAdd, Nat.reduceMul, Nat.reduceSub, Nat.reduceBEq, Int.reduceLE, Int.reduceLT, Int.reduceNeg, Int.reduceToNat, Int.reduceEq, Int.reduceBEq, Int.reduceBNe, Nat.reduceBNe, bne_self_eq_false, reduceCtorEq, gt_iff_lt, ge_iff_le, hw, hs, hn, hl, F10]; done)) | (refine AWP.condF ?_ ?_; focus (simp only [W, eqq, ↓reduceIte, Nat.reduceEqDiff, Nat.reduceLT, Nat.reduceLeDiff, Nat.reduceAdd, Nat.reduceMul, Nat.reduceSub, Nat.reduceBEq, Int.reduceLE, Int.reduceLT, Int.reduceNeg, Int.reduceToNat, Int.reduceEq, Int.reduceBEq, Int.reduceBNe, Nat.reduceBNe, bne_self_eq_false, reduceCtorEq, gt_iff_lt, ge_iff_le, hw, hs, hn, hl, F10]; done)) | (refine AWP.skip ?_; try show AWP _ _ _ _ _ _) | (refine AWP.exit ?_; try show AWP _ _ _ _ _ _)))
  exact AWP.ret ⟨.inr rfl, [], [], by decide, rfl, rfl⟩

def F9 : Fun
  | [.str tag, .by b] => some ([], .t (.bool true))
  | _ => none

theorem cl9 : GClOk Try.prog [(10, ⟨[], treeG F10⟩), (11, ⟨[false], treeG F11⟩), (18, ⟨[false], treeG F18⟩), (20, ⟨[false, false], treeG F20⟩)] := .cons c10.g (.cons c11.g (.cons c18.g (.cons c20.g (.nil _))))

set_option maxRecDepth 10000 in
set_option maxHeartbeats 2000000 in
theorem c9 : ACon Try.prog 9 F9 := by
  refine acon (E := E) (rs := [(4, 4)]) Try.func9 rfl Try.ntmps9 (by kernel_rfl) rfl (by decide) F9 (np := 2) ?_ ?_
  · intro ts h; unfold F9; split <;> first | rfl | (simp at h; done)
  intro ts H r hF hwf
  unfold F9 at hF
  split at hF <;> try (cases hF; done)
  rename_i tag b
  cases hF
  by_cases hb : 300 < (b.length : Int)
  · (repeat (first | refine AWP.seq ?_ | refine AWP.block ?_ | (refine AWP.greg X_ok cl9 [0, 1, 4, 5, 6, 7, 15] (by ((repeat (first | simp only [W, eqq, ↓reduceIte, Nat.reduceEqDiff, Nat.reduceLT, Nat.reduceLeDiff, Nat.reduceAdd, Nat.reduceMul, Nat.reduceSub, Nat.reduceBEq, Int.reduceLE, Int.reduceLT, Int.reduceNeg, Int.reduceToNat, Int.reduceEq, Int.reduceBEq, Int.reduceBNe, Nat.reduceBNe, bne_self_eq_false, reduceCtorEq, gt_iff_lt, ge_iff_le, hb, F10] | (rewrite [if_pos]; rotate_left; focus (first | omega | (simp only [LN, hb, F10]; omega) | (refine ⟨?_, ?_⟩ <;> (simp only [LN, hb, F10] <;> omega)))) | (rewrite [if_neg]; rotate_left; focus (first | omega | (simp only [LN, hb, F10]; omega) | (refine ⟨?_, ?_⟩ <;> (simp only [LN, hb, F10] <;> omega)))))); with_reducible rfl)) ?_; try show AWP _ _ _ _ _ _) | (refine AWP.condT ?_ ?_; focus (simp only [W, eqq, ↓reduceIte, Nat.reduceEqDiff, Nat.reduceLT, Nat.reduceLeDiff, Nat.reduceAdd, Nat.reduceMul, Nat.reduceSub, Nat.reduceBEq, Int.reduceLE, Int.reduceLT, Int.reduceNeg, Int.reduceToNat, Int.reduceEq, Int.reduceBEq, Int.reduceBNe, Nat.reduceBNe, bne_self_eq_false, reduceCtorEq, gt_iff_lt, ge_iff_le, hb, F10]; done)) | (refine AWP.condF ?_ ?_; focus (simp only [W, eqq, ↓reduceIte, Nat.reduceEqDiff, Nat.reduceLT, Nat.reduceLeDiff, Nat.reduceAdd, Nat.reduceMul, Nat.reduceSub, Nat.reduceBEq, Int.reduceLE, Int.reduceLT, Int.reduceNeg, Int.reduceToNat, Int.reduceEq, Int.reduceBEq, Int.reduceBNe, Nat.reduceBNe, bne_self_eq_false, reduceCtorEq, gt_iff_lt, ge_iff_le, hb, F10]; done)) | (refine AWP.skip ?_; try show AWP _ _ _ _ _ _) | (refine AWP.exit ?_; try show AWP _ _ _ _ _ _)))
    exact AWP.ret ⟨.inr rfl, [], [], by decide, rfl, rfl⟩
  by_cases ht : 300 < (tag.length : Int)
  · (repeat (first | refine AWP.seq ?_ | refine AWP.block ?_ | (refine AWP.greg X_ok cl9 [0, 1, 4, 5, 6, 7, 15] (by ((repeat (first | simp only [W, eqq, ↓reduceIte, Nat.reduceEqDiff, Nat.reduceLT, Nat.reduceLeDiff, Nat.reduceAdd, Nat.reduceMul, Nat.reduceSub, Nat.reduceBEq, Int.reduceLE, Int.reduceLT, Int.reduceNeg, Int.reduceToNat, Int.reduceEq, Int.reduceBEq, Int.reduceBNe, Nat.reduceBNe, bne_self_eq_false, reduceCtorEq, gt_iff_lt, ge_iff_le, hb, ht, F10] | (rewrite [if_pos]; rotate_left; focus (first | omega | (simp only [LN, hb, ht, F10]; omega) | (refine ⟨?_, ?_⟩ <;> (simp only [LN, hb, ht, F10] <;> omega)))) | (rewrite [if_neg]; rotate_left; focus (first | omega | (simp only [LN, hb, ht, F10]; omega) | (refine ⟨?_, ?_⟩ <;> (simp only [LN, hb, ht, F10] <;> omega)))))); with_reducible rfl)) ?_; try show AWP _ _ _ _ _ _) | (refine AWP.condT ?_ ?_; focus (simp only [W, eqq, ↓reduceIte, Nat.reduceEqDiff, Nat.reduceLT, Nat.reduceLeDiff, Nat.reduceAdd, Nat.reduceMul, Nat.reduceSub, Nat.reduceBEq, Int.reduceLE, Int.reduceLT, Int.reduceNeg, Int.reduceToNat, Int.reduceEq, Int.reduceBEq, Int.reduceBNe, Nat.reduceBNe, bne_self_eq_false, reduceCtorEq, gt_iff_lt, ge_iff_le, hb, ht, F10]; done)) | (refine AWP.condF ?_ ?_; focus (simp only [W, eqq, ↓reduceIte, Nat.reduceEqDiff, Nat.reduceLT, Nat.reduceLeDiff, Nat.reduceAdd, Nat.reduceMul, Nat.reduceSub, Nat.reduceBEq, Int.reduceLE, Int.reduceLT, Int.reduceNeg, Int.reduceToNat, Int.reduceEq, Int.reduceBEq, Int.reduceBNe, Nat.reduceBNe, bne_self_eq_false, reduceCtorEq, gt_iff_lt, ge_iff_le, hb, ht, F10]; done)) | (refine AWP.skip ?_; try show AWP _ _ _ _ _ _) | (refine AWP.exit ?_; try show AWP _ _ _ _ _ _)))
    exact AWP.ret ⟨.inr rfl, [], [], by decide, rfl, rfl⟩
  have hb' : b.length ≤ 1000000000 := by omega
  have ht' : tag.length ≤ 1000000000 := by omega
  have htm : tag.length ≤ 281474976710656 := by omega
  have h1 := shasum_c hb'
  have h2 := shasum_c ht'
  have hl1 := shaL_len b
  have hl2 := shaL_len tag
  have h3 : F18 [.by b] = some ([], .t (.ba 32 (shaL (shaL b)))) := if_pos hb'
  have h4 : F11 [.by (shaL b)] = some ([], .t (.ba 32 (shaL (shaL b)))) := shasum_c (by omega)
  have h5 : F20 [.str tag, .by b] = some ([], .t (.ba 32 (tagL tag b))) := if_pos ⟨hb', ht'⟩
  have h6 : F11 [.by (shaL tag ++ shaL tag ++ b)] = some ([], .t (.ba 32 (tagL tag b))) := shasum_c (by simp; omega)
  obtain ⟨d, hd⟩ : ∃ d, shaL (shaL b) = d := ⟨_, rfl⟩
  rw [hd] at h3 h4
  obtain ⟨e, he⟩ : ∃ e, tagL tag b = e := ⟨_, rfl⟩
  rw [he] at h5 h6
  obtain ⟨x, hx⟩ : ∃ x, shaL b = x := ⟨_, rfl⟩
  rw [hx] at h1 h4 hl1
  obtain ⟨y, hy⟩ : ∃ y, shaL tag = y := ⟨_, rfl⟩
  rw [hy] at h2 h6 hl2
  have tx : x.take 32 = x := List.take_of_length_le (by omega)
  have ty : y.take 32 = y := List.take_of_length_le (by omega)
  have lyy : (y ++ y).length ≤ 100 := by simp; omega
  have ly : y.length ≤ 100 := by omega
  have lb : b.length ≤ 300 := by omega
  (repeat (first | refine AWP.seq ?_ | refine AWP.block ?_ | (refine AWP.greg X_ok cl9 [0, 1, 4, 5, 6, 7, 15] (by ((repeat (first | simp only [W, eqq, ↓reduceIte, Nat.reduceEqDiff, Nat.reduceLT, Nat.reduceLeDiff, Nat.reduceAdd, Nat.reduceMul, Nat.reduceSub, Nat.reduceBEq, Int.reduceLE, Int.reduceLT, Int.reduceNeg, Int.reduceToNat, Int.reduceEq, Int.reduceBEq, Int.reduceBNe, Nat.reduceBNe, bne_self_eq_false, reduceCtorEq, gt_iff_lt, ge_iff_le, hb, ht, h1, h2, h3, h4, h5, h6, tx, ty, ly, lyy, lb, htm, F10] | (rewrite [if_pos]; rotate_left; focus (first | omega | (simp only [LN, hb, ht, h1, h2, h3, h4, h5, h6, tx, ty, ly, lyy, lb, htm, F10]; omega) | (refine ⟨?_, ?_⟩ <;> (simp only [LN, hb, ht, h1, h2, h3, h4, h5, h6, tx, ty, ly, lyy, lb, htm, F10] <;> omega)))) | (rewrite [if_neg]; rotate_left; focus (first | omega | (simp only [LN, hb, ht, h1, h2, h3, h4, h5, h6, tx, ty, ly, lyy, lb, htm, F10]; omega) | (refine ⟨?_, ?_⟩ <;> (simp only [LN, hb, ht, h1, h2, h3, h4, h5, h6, tx, ty, ly, lyy, lb, htm, F10] <;> omega)))))); with_reducible rfl)) ?_; try show AWP _ _ _ _ _ _) | (refine AWP.condT ?_ ?_; focus (simp only [W, eqq, ↓reduceIte, Nat.reduceEqDiff, Nat.reduceLT, Nat.reduceLeDiff, Nat.reduceAdd, Nat.reduceMul, Nat.reduceSub, Nat.reduceBEq, Int.reduceLE, Int.reduceLT, Int.reduceNeg, Int.reduceToNat, Int.reduceEq, Int.reduceBEq, Int.reduceBNe, Nat.reduceBNe, bne_self_eq_false, reduceCtorEq, gt_iff_lt, ge_iff_le, hb, ht, h1, h2, h3, h4, h5, h6, tx, ty, ly, lyy, lb, htm, F10]; done)) | (refine AWP.condF ?_ ?_; focus (simp only [W, eqq, ↓reduceIte, Nat.reduceEqDiff, Nat.reduceLT, Nat.reduceLeDiff, Nat.reduceAdd, Nat.reduceMul, Nat.reduceSub, Nat.reduceBEq, Int.reduceLE, Int.reduceLT, Int.reduceNeg, Int.reduceToNat, Int.reduceEq, Int.reduceBEq, Int.reduceBNe, Nat.reduceBNe, bne_self_eq_false, reduceCtorEq, gt_iff_lt, ge_iff_le, hb, ht, h1, h2, h3, h4, h5, h6, tx, ty, ly, lyy, lb, htm, F10]; done)) | (refine AWP.skip ?_; try show AWP _ _ _ _ _ _) | (refine AWP.exit ?_; try show AWP _ _ _ _ _ _) | (refine AWP.gdraw X_ok cl9 [0, 1, 4, 5, 6, 7, 15] mix [⟨1, [], []⟩, ⟨0, [31], [0]⟩, ⟨0, [1], [0]⟩, ⟨1, [33], [0]⟩, ⟨1, [5], [0]⟩, ⟨1, [35], [0, 3, 4]⟩, ⟨0, [34, 36], [0, 3, 4, 5]⟩, ⟨0, [32, 37], [0, 3, 4, 5]⟩, ⟨0, [38], [0, 3, 4, 5]⟩, ⟨0, [0], [0, 3, 4, 5]⟩, ⟨0, [1], [0, 3, 4, 5]⟩, ⟨1, [40, 41], [0, 3, 4, 5]⟩, ⟨0, [7], [0, 3, 4, 5]⟩, ⟨1, [43], [0, 3, 4, 5, 11]⟩, ⟨0, [42, 44], [0, 3, 4, 5, 11, 13]⟩, ⟨0, [39, 45], [0, 3, 4, 5, 11, 13]⟩, ⟨0, [46], [0, 3, 4, 5, 11, 13]⟩] (by kernel_rfl) (by ((repeat (first | simp only [W, eqq, ↓reduceIte, Nat.reduceEqDiff, Nat.reduceLT, Nat.reduceLeDiff, Nat.reduceAdd, Nat.reduceMul, Nat.reduceSub, Nat.reduceBEq, Int.reduceLE, Int.reduceLT, Int.reduceNeg, Int.reduceToNat, Int.reduceEq, Int.reduceBEq, Int.reduceBNe, Nat.reduceBNe, bne_self_eq_false, reduceCtorEq, gt_iff_lt, ge_iff_le, hb, ht, h1, h2, h3, h4, h5, h6, tx, ty, ly, lyy, lb, htm, F10] | (rewrite [if_pos]; rotate_left; focus (first | omega | (simp only [LN, hb, ht, h1, h2, h3, h4, h5, h6, tx, ty, ly, lyy, lb, htm, F10]; omega) | (refine ⟨?_, ?_⟩ <;> (simp only [LN, hb, ht, h1, h2, h3, h4, h5, h6, tx, ty, ly, lyy, lb, htm, F10] <;> omega)))) | (rewrite [if_neg]; rotate_left; focus (first | omega | (simp only [LN, hb, ht, h1, h2, h3, h4, h5, h6, tx, ty, ly, lyy, lb, htm, F10]; omega) | (refine ⟨?_, ?_⟩ <;> (simp only [LN, hb, ht, h1, h2, h3, h4, h5, h6, tx, ty, ly, lyy, lb, htm, F10] <;> omega)))))); with_reducible rfl)) ?_; try show AWP _ _ _ _ _ _)))
  exact AWP.ret ⟨.inr rfl, [], [], by decide, rfl, rfl⟩

end Go.Fw

end

section
/- Chapter 7: the law ShaPieces: its code walked. -/
namespace Go.Fw
open Go Go.Proofs
set_option linter.unusedVariables false
set_option linter.unusedSimpArgs false

open Classical in
noncomputable def F6 : Fun
  | [.sq 1 xs] => if ∃ ls : List (List UInt8), xs = ls.map T.by then some ([], .t (.bool true)) else none
  | _ => none

theorem cl6 : GClOk Try.prog [(10, ⟨[], treeG F10⟩), (11, ⟨[false], treeG F11⟩), (14, ⟨[], treeG F14⟩), (15, ⟨[true, false], G15⟩), (16, ⟨[true], G16⟩), (17, ⟨[true], G17⟩)] := .cons c10.g (.cons c11.g (.cons c14.g (.cons g15 (.cons g16 (.cons g17 (.nil _))))))

set_option maxRecDepth 10000 in
set_option maxHeartbeats 2000000 in
theorem c6 : ACon Try.prog 6 F6 := by
  refine acon (E := E) (rs := [(2, 4)]) Try.func6 rfl Try.ntmps6 (by kernel_rfl) rfl (by decide) F6 (np := 1) ?_ ?_
  · intro ts h; unfold F6; split <;> first | rfl | (simp at h; done)
  intro ts H r hF hwf
  unfold F6 at hF
  split at hF <;> try (cases hF; done)
  rename_i xs
  split at hF
  case isFalse => cases hF
  rename_i has
  obtain ⟨ls, rfl⟩ := has
  cases hF
  (repeat (first | refine AWP.seq ?_ | refine AWP.block ?_ | (refine AWP.greg X_ok cl6 [0, 2, 3, 4, 5, 8, 17, 25, 50] (by ((repeat (first | simp only [W, eqq, ↓reduceIte, Nat.reduceEqDiff, Nat.reduceLT, Nat.reduceLeDiff, Nat.reduceAdd, Nat.reduceMul, Nat.reduceSub, Nat.reduceBEq, Int.reduceLE, Int.reduceLT, Int.reduceNeg, Int.reduceToNat, Int.reduceEq, Int.reduceBEq, Int.reduceBNe, Nat.reduceBNe, bne_self_eq_false, reduceCtorEq, gt_iff_lt, ge_iff_le, F14] | (rewrite [if_pos]; rotate_left; focus (first | omega | (simp only [LN, F14]; omega) | (refine ⟨?_, ?_⟩ <;> (simp only [LN, F14] <;> omega)))) | (rewrite [if_neg]; rotate_left; focus (first | omega | (simp only [LN, F14]; omega) | (refine ⟨?_, ?_⟩ <;> (simp only [LN, F14] <;> omega)))))); with_reducible rfl)) ?_; try show AWP _ _ _ _ _ _) | (refine AWP.condT ?_ ?_; focus (simp only [W, eqq, ↓reduceIte, Nat.reduceEqDiff, Nat.reduceLT, Nat.reduceLeDiff, Nat.reduceAdd, Nat.reduceMul, Nat.reduceSub, Nat.reduceBEq, Int.reduceLE, Int.reduceLT, Int.reduceNeg, Int.reduceToNat, Int.reduceEq, Int.reduceBEq, Int.reduceBNe, Nat.reduceBNe, bne_self_eq_false, reduceCtorEq, gt_iff_lt, ge_iff_le, F14]; done)) | (refine AWP.condF ?_ ?_; focus (simp only [W, eqq, ↓reduceIte, Nat.reduceEqDiff, Nat.reduceLT, Nat.reduceLeDiff, Nat.reduceAdd, Nat.reduceMul, Nat.reduceSub, Nat.reduceBEq, Int.reduceLE, Int.reduceLT, Int.reduceNeg, Int.reduceToNat, Int.reduceEq, Int.reduceBEq, Int.reduceBNe, Nat.reduceBNe, bne_self_eq_false, reduceCtorEq, gt_iff_lt, ge_iff_le, F14]; done)) | (refine AWP.skip ?_; try show AWP _ _ _ _ _ _) | (refine AWP.exit ?_; try show AWP _ _ _ _ _ _)))
  refine AWP.loop (G := { x : Nat × List UInt8 // x.1 ≤ 20 ∧ x.2.length ≤ 300 * x.1 }) (fun x => ⟨[(0, .t (.sq 1 (ls.map T.by))), (2, .t (.bool false)), (3, .ptr 0 0 []), (4, .own 1), (5, .t (.int .i64 (x.1.1 : Int)))], [msgB x.1.2, .by x.1.2]⟩) (fun x => 20 - x.1.1) ⟨(0, []), by omega, by simp⟩ (Weak.to [0, 2, 3, 4, 5] [0, 1] (show okIds 0 [0, 1] by decide) (by simp only [W, eqq, ↓reduceIte, Nat.reduceEqDiff, Nat.reduceLT, Nat.reduceLeDiff, Nat.reduceAdd, Nat.reduceMul, Nat.reduceSub, Nat.reduceBEq, Int.reduceLE, Int.reduceLT, Int.reduceNeg, Int.reduceToNat, Int.reduceEq, Int.reduceBEq, Int.reduceBNe, Nat.reduceBNe, bne_self_eq_false, reduceCtorEq, gt_iff_lt, ge_iff_le]; rfl)) ?_
  intro ⟨⟨i, a⟩, hi, ha⟩
  dsimp only at hi ha ⊢
  have hak : a.length ≤ 6000 := by omega
  have hs0 : G16 [msgB a] [.ptr 0 0 []] = some ([msgB a], .t (.ba 32 (shaL a))) := sum_c a (by omega)
  have hn0 : F11 [.by a] = some ([], .t (.ba 32 (shaL a))) := shasum_c (by omega)
  obtain ⟨z, hz⟩ : ∃ z, shaL a = z := ⟨_, rfl⟩
  rw [hz] at hs0 hn0
  by_cases h1 : (i : Int) < (ls.length : Int)
  case neg =>
    (repeat (first | refine AWP.seq ?_ | refine AWP.block ?_ | (refine AWP.greg X_ok cl6 [0, 2, 3, 4, 5, 8, 17, 25, 50] (by ((repeat (first | simp only [W, eqq, ↓reduceIte, Nat.reduceEqDiff, Nat.reduceLT, Nat.reduceLeDiff, Nat.reduceAdd, Nat.reduceMul, Nat.reduceSub, Nat.reduceBEq, Int.reduceLE, Int.reduceLT, Int.reduceNeg, Int.reduceToNat, Int.reduceEq, Int.reduceBEq, Int.reduceBNe, Nat.reduceBNe, bne_self_eq_false, reduceCtorEq, gt_iff_lt, ge_iff_le, h1, hs0, hn0, F10] | (rewrite [if_pos]; rotate_left; focus (first | omega | (simp only [LN, h1, hs0, hn0, F10]; omega) | (refine ⟨?_, ?_⟩ <;> (simp only [LN, h1, hs0, hn0, F10] <;> omega)))) | (rewrite [if_neg]; rotate_left; focus (first | omega | (simp only [LN, h1, hs0, hn0, F10]; omega) | (refine ⟨?_, ?_⟩ <;> (simp only [LN, h1, hs0, hn0, F10] <;> omega)))))); with_reducible rfl)) ?_; try show AWP _ _ _ _ _ _) | (refine AWP.condT ?_ ?_; focus (simp only [W, eqq, ↓reduceIte, Nat.reduceEqDiff, Nat.reduceLT, Nat.reduceLeDiff, Nat.reduceAdd, Nat.reduceMul, Nat.reduceSub, Nat.reduceBEq, Int.reduceLE, Int.reduceLT, Int.reduceNeg, Int.reduceToNat, Int.reduceEq, Int.reduceBEq, Int.reduceBNe, Nat.reduceBNe, bne_self_eq_false, reduceCtorEq, gt_iff_lt, ge_iff_le, h1, hs0, hn0, F10]; done)) | (refine AWP.condF ?_ ?_; focus (simp only [W, eqq, ↓reduceIte, Nat.reduceEqDiff, Nat.reduceLT, Nat.reduceLeDiff, Nat.reduceAdd, Nat.reduceMul, Nat.reduceSub, Nat.reduceBEq, Int.reduceLE, Int.reduceLT, Int.reduceNeg, Int.reduceToNat, Int.reduceEq, Int.reduceBEq, Int.reduceBNe, Nat.reduceBNe, bne_self_eq_false, reduceCtorEq, gt_iff_lt, ge_iff_le, h1, hs0, hn0, F10]; done)) | (refine AWP.skip ?_; try show AWP _ _ _ _ _ _) | (refine AWP.exit ?_; try show AWP _ _ _ _ _ _)))
    exact AWP.ret ⟨.inr rfl, [], [], by decide, rfl, rfl⟩
  by_cases h2 : (i : Int) < 20
  case neg =>
    (repeat (first | refine AWP.seq ?_ | refine AWP.block ?_ | (refine AWP.greg X_ok cl6 [0, 2, 3, 4, 5, 8, 17, 25, 50] (by ((repeat (first | simp only [W, eqq, ↓reduceIte, Nat.reduceEqDiff, Nat.reduceLT, Nat.reduceLeDiff, Nat.reduceAdd, Nat.reduceMul, Nat.reduceSub, Nat.reduceBEq, Int.reduceLE, Int.reduceLT, Int.reduceNeg, Int.reduceToNat, Int.reduceEq, Int.reduceBEq, Int.reduceBNe, Nat.reduceBNe, bne_self_eq_false, reduceCtorEq, gt_iff_lt, ge_iff_le, h1, h2, hs0, hn0, F10] | (rewrite [if_pos]; rotate_left; focus (first | omega | (simp only [LN, h1, h2, hs0, hn0, F10]; omega) | (refine ⟨?_, ?_⟩ <;> (simp only [LN, h1, h2, hs0, hn0, F10] <;> omega)))) | (rewrite [if_neg]; rotate_left; focus (first | omega | (simp only [LN, h1, h2, hs0, hn0, F10]; omega) | (refine ⟨?_, ?_⟩ <;> (simp only [LN, h1, h2, hs0, hn0, F10] <;> omega)))))); with_reducible rfl)) ?_; try show AWP _ _ _ _ _ _) | (refine AWP.condT ?_ ?_; focus (simp only [W, eqq, ↓reduceIte, Nat.reduceEqDiff, Nat.reduceLT, Nat.reduceLeDiff, Nat.reduceAdd, Nat.reduceMul, Nat.reduceSub, Nat.reduceBEq, Int.reduceLE, Int.reduceLT, Int.reduceNeg, Int.reduceToNat, Int.reduceEq, Int.reduceBEq, Int.reduceBNe, Nat.reduceBNe, bne_self_eq_false, reduceCtorEq, gt_iff_lt, ge_iff_le, h1, h2, hs0, hn0, F10]; done)) | (refine AWP.condF ?_ ?_; focus (simp only [W, eqq, ↓reduceIte, Nat.reduceEqDiff, Nat.reduceLT, Nat.reduceLeDiff, Nat.reduceAdd, Nat.reduceMul, Nat.reduceSub, Nat.reduceBEq, Int.reduceLE, Int.reduceLT, Int.reduceNeg, Int.reduceToNat, Int.reduceEq, Int.reduceBEq, Int.reduceBNe, Nat.reduceBNe, bne_self_eq_false, reduceCtorEq, gt_iff_lt, ge_iff_le, h1, h2, hs0, hn0, F10]; done)) | (refine AWP.skip ?_; try show AWP _ _ _ _ _ _) | (refine AWP.exit ?_; try show AWP _ _ _ _ _ _)))
    exact AWP.ret ⟨.inr rfl, [], [], by decide, rfl, rfl⟩
  have hil : i < ls.length := by omega
  obtain ⟨y, hy⟩ : ∃ y, ls[i]? = some y := ⟨_, List.getElem?_eq_getElem hil⟩
  have hyg : (List.map T.by ls).getD i default = .by y := by simp [List.getD_eq_getElem?_getD, hy]
  have hk1 : IntKind.i64.wrap ((i : Int) + 1) = ((i + 1 : Nat) : Int) := by rw [wrap_i64 (by omega) (by omega)]; omega
  by_cases hyl : 300 < (y.length : Int)
  · (repeat (first | refine AWP.seq ?_ | refine AWP.block ?_ | (refine AWP.greg X_ok cl6 [0, 2, 3, 4, 5, 8, 17, 25, 50] (by ((repeat (first | simp only [W, eqq, ↓reduceIte, Nat.reduceEqDiff, Nat.reduceLT, Nat.reduceLeDiff, Nat.reduceAdd, Nat.reduceMul, Nat.reduceSub, Nat.reduceBEq, Int.reduceLE, Int.reduceLT, Int.reduceNeg, Int.reduceToNat, Int.reduceEq, Int.reduceBEq, Int.reduceBNe, Nat.reduceBNe, bne_self_eq_false, reduceCtorEq, gt_iff_lt, ge_iff_le, h1, h2, hil, hyg, hyl, hk1] | (rewrite [if_pos]; rotate_left; focus (first | omega | (simp only [LN, h1, h2, hil, hyg, hyl, hk1]; omega) | (refine ⟨?_, ?_⟩ <;> (simp only [LN, h1, h2, hil, hyg, hyl, hk1] <;> omega)))) | (rewrite [if_neg]; rotate_left; focus (first | omega | (simp only [LN, h1, h2, hil, hyg, hyl, hk1]; omega) | (refine ⟨?_, ?_⟩ <;> (simp only [LN, h1, h2, hil, hyg, hyl, hk1] <;> omega)))))); with_reducible rfl)) ?_; try show AWP _ _ _ _ _ _) | (refine AWP.condT ?_ ?_; focus (simp only [W, eqq, ↓reduceIte, Nat.reduceEqDiff, Nat.reduceLT, Nat.reduceLeDiff, Nat.reduceAdd, Nat.reduceMul, Nat.reduceSub, Nat.reduceBEq, Int.reduceLE, Int.reduceLT, Int.reduceNeg, Int.reduceToNat, Int.reduceEq, Int.reduceBEq, Int.reduceBNe, Nat.reduceBNe, bne_self_eq_false, reduceCtorEq, gt_iff_lt, ge_iff_le, h1, h2, hil, hyg, hyl, hk1]; done)) | (refine AWP.condF ?_ ?_; focus (simp only [W, eqq, ↓reduceIte, Nat.reduceEqDiff, Nat.reduceLT, Nat.reduceLeDiff, Nat.reduceAdd, Nat.reduceMul, Nat.reduceSub, Nat.reduceBEq, Int.reduceLE, Int.reduceLT, Int.reduceNeg, Int.reduceToNat, Int.reduceEq, Int.reduceBEq, Int.reduceBNe, Nat.reduceBNe, bne_self_eq_false, reduceCtorEq, gt_iff_lt, ge_iff_le, h1, h2, hil, hyg, hyl, hk1]; done)) | (refine AWP.skip ?_; try show AWP _ _ _ _ _ _) | (refine AWP.exit ?_; try show AWP _ _ _ _ _ _)))
    exact ⟨⟨(i + 1, a), by simp only; omega, by simp only; omega⟩, Weak.to [0, 2, 3, 4, 5] [0, 1] (show okIds 0 [0, 1] by decide) (by simp only [W, eqq, ↓reduceIte, Nat.reduceEqDiff, Nat.reduceLT, Nat.reduceLeDiff, Nat.reduceAdd, Nat.reduceMul, Nat.reduceSub, Nat.reduceBEq, Int.reduceLE, Int.reduceLT, Int.reduceNeg, Int.reduceToNat, Int.reduceEq, Int.reduceBEq, Int.reduceBNe, Nat.reduceBNe, bne_self_eq_false, reduceCtorEq, gt_iff_lt, ge_iff_le]), by simp only; omega⟩
  have hyk : y.length ≤ 300 := by omega
  have hw : G15 [msgB a] [.ptr 0 0 [], .t (.by y)] = some ([msgB (a ++ y)], .tup []) := write_c' (by omega) (by omega)
  have hMl : (a ++ y).length ≤ 300 * (i + 1) := by simp; omega
  obtain ⟨M, hM⟩ : ∃ M, a ++ y = M := ⟨_, rfl⟩
  rw [hM] at hw hMl
  have hs : G16 [msgB M] [.ptr 0 0 []] = some ([msgB M], .t (.ba 32 (shaL M))) := sum_c M (by omega)
  have hn : F11 [.by M] = some ([], .t (.ba 32 (shaL M))) := shasum_c (by omega)
  have hle : G17 [msgB M] [.ptr 0 0 []] = some ([msgB M], .t (.int .u64 (M.length : Int))) := rfl
  have hwr : IntKind.u64.wrap (M.length : Int) = (M.length : Int) := wrap_u64 (by omega) (by omega)
  obtain ⟨v, hv⟩ : ∃ v, shaL M = v := ⟨_, rfl⟩
  rw [hv] at hs hn
  (repeat (first | refine AWP.seq ?_ | refine AWP.block ?_ | (refine AWP.greg X_ok cl6 [0, 2, 3, 4, 5, 8, 17, 25, 50] (by ((repeat (first | simp only [W, eqq, ↓reduceIte, Nat.reduceEqDiff, Nat.reduceLT, Nat.reduceLeDiff, Nat.reduceAdd, Nat.reduceMul, Nat.reduceSub, Nat.reduceBEq, Int.reduceLE, Int.reduceLT, Int.reduceNeg, Int.reduceToNat, Int.reduceEq, Int.reduceBEq, Int.reduceBNe, Nat.reduceBNe, bne_self_eq_false, reduceCtorEq, gt_iff_lt, ge_iff_le, h1, h2, hil, hyg, hyl, hak, hyk, hM, hw, hs, hn, hle, hwr, hk1] | (rewrite [if_pos]; rotate_left; focus (first | omega | (simp only [LN, h1, h2, hil, hyg, hyl, hak, hyk, hM, hw, hs, hn, hle, hwr, hk1]; omega) | (refine ⟨?_, ?_⟩ <;> (simp only [LN, h1, h2, hil, hyg, hyl, hak, hyk, hM, hw, hs, hn, hle, hwr, hk1] <;> omega)))) | (rewrite [if_neg]; rotate_left; focus (first | omega | (simp only [LN, h1, h2, hil, hyg, hyl, hak, hyk, hM, hw, hs, hn, hle, hwr, hk1]; omega) | (refine ⟨?_, ?_⟩ <;> (simp only [LN, h1, h2, hil, hyg, hyl, hak, hyk, hM, hw, hs, hn, hle, hwr, hk1] <;> omega)))))); with_reducible rfl)) ?_; try show AWP _ _ _ _ _ _) | (refine AWP.condT ?_ ?_; focus (simp only [W, eqq, ↓reduceIte, Nat.reduceEqDiff, Nat.reduceLT, Nat.reduceLeDiff, Nat.reduceAdd, Nat.reduceMul, Nat.reduceSub, Nat.reduceBEq, Int.reduceLE, Int.reduceLT, Int.reduceNeg, Int.reduceToNat, Int.reduceEq, Int.reduceBEq, Int.reduceBNe, Nat.reduceBNe, bne_self_eq_false, reduceCtorEq, gt_iff_lt, ge_iff_le, h1, h2, hil, hyg, hyl, hak, hyk, hM, hw, hs, hn, hle, hwr, hk1]; done)) | (refine AWP.condF ?_ ?_; focus (simp only [W, eqq, ↓reduceIte, Nat.reduceEqDiff, Nat.reduceLT, Nat.reduceLeDiff, Nat.reduceAdd, Nat.reduceMul, Nat.reduceSub, Nat.reduceBEq, Int.reduceLE, Int.reduceLT, Int.reduceNeg, Int.reduceToNat, Int.reduceEq, Int.reduceBEq, Int.reduceBNe, Nat.reduceBNe, bne_self_eq_false, reduceCtorEq, gt_iff_lt, ge_iff_le, h1, h2, hil, hyg, hyl, hak, hyk, hM, hw, hs, hn, hle, hwr, hk1]; done)) | (refine AWP.skip ?_; try show AWP _ _ _ _ _ _) | (refine AWP.exit ?_; try show AWP _ _ _ _ _ _)))
  exact ⟨⟨(i + 1, M), by simp only; omega, hMl⟩, Weak.to [0, 2, 3, 4, 5] [0, 2] (show okIds 0 [0, 2] by decide) (by simp only [W, eqq, ↓reduceIte, Nat.reduceEqDiff, Nat.reduceLT, Nat.reduceLeDiff, Nat.reduceAdd, Nat.reduceMul, Nat.reduceSub, Nat.reduceBEq, Int.reduceLE, Int.reduceLT, Int.reduceNeg, Int.reduceToNat, Int.reduceEq, Int.reduceBEq, Int.reduceBNe, Nat.reduceBNe, bne_self_eq_false, reduceCtorEq, gt_iff_lt, ge_iff_le]), by simp only; omega⟩

theorem str_of {x : T} (h : Sh.str.has x) : ∃ l, x = .str l := by
  cases x <;> simp only [Sh.has] at h
  exact ⟨_, rfl⟩

end Go.Fw

end
