/- The abstract machine, and the contracts of the code: part 55. -/
import Derived.Test.YtlhghhkcoaglnaaP54

section
/- The document's store: a save. -/
namespace Go.Fw
open Go Go.Proofs
set_option linter.unusedVariables false
set_option linter.unusedSimpArgs false

def flL (c : List Nat) : List UInt8 := (c.map fun i : Nat => le 4 (i : Int)).flatten
theorem flL_nil : flL [] = [] := rfl
theorem flL_snoc (c : List Nat) (x : Nat) : flL (c ++ [x]) = flL c ++ le 4 (x : Int) := by unfold flL; rw [List.map_append, List.flatten_append]; simp
theorem flL_len (c : List Nat) : (flL c).length = 4 * c.length := fl4_len c
theorem chgN_zero (was want : List UInt8) : chgN was want 0 = [] := rfl

noncomputable def F26 : Fun
  | [.st [.int .i64 n, .by img, .bool br], x, .by b] => match asRD x with
    | some d => @ite _ (((0 < n ∧ n ≤ 8192 ∧ b.length ≤ 100000000) ∧ (d.good = true ∧ d.p.length ≤ 60000) ∧ 1 + lstN n.toNat + 2 * n.toNat ≤ d.s.length)) (Classical.propDecidable _) ((some ([], .tup [.t (rsT (saveS ⟨n.toNat, img, br⟩ d b).1), .t (saveS ⟨n.toNat, img, br⟩ d b).2.1.T, .t (.int .i64 (saveS ⟨n.toNat, img, br⟩ d b).2.2)]))) none
    | none => none
  | _ => none

theorem ct26 : CT [(29, ⟨[false], treeG F29⟩), (46, ⟨[false, false, false], treeG F46⟩), (47, ⟨[false], treeG F47⟩), (48, ⟨[false, false], treeG F48⟩), (50, ⟨[false, false], treeG F50⟩), (51, ⟨[false, false, false], treeG F51⟩), (52, ⟨[false, false], treeG F52⟩), (53, ⟨[true, false, false], G53⟩), (54, ⟨[true], G54⟩), (55, ⟨[false], treeG F55⟩)] [0, 1, 2, 3, 4, 6, 7, 8, 9, 10, 11, 12, 13, 14, 15, 16, 17, 18, 19, 24, 32, 59, 70, 88, 100, 119, 146] [(2, [⟨0, [3], [], [0, 1]⟩, ⟨0, [4], [], [0, 1]⟩, ⟨2, [6, 25], [], [0, 1]⟩, ⟨2, [7, 26], [2], [0, 1]⟩, ⟨0, [], [2, 3], []⟩]), (5, [⟨0, [3], [], [0, 1]⟩, ⟨0, [4], [], [0, 1]⟩, ⟨2, [6, 34], [], [0, 1]⟩, ⟨2, [7, 35], [2], [0, 1]⟩, ⟨0, [], [2, 3], []⟩]), (16, [⟨0, [11], [], []⟩, ⟨0, [16], [], []⟩, ⟨1, [62, 63], [], []⟩, ⟨1, [64], [2], []⟩, ⟨0, [12], [], []⟩, ⟨0, [16], [], []⟩, ⟨1, [66, 67], [2], []⟩, ⟨1, [68], [2, 6], []⟩, ⟨0, [65, 69], [2, 3, 6, 7], []⟩]), (39, [⟨0, [3], [], [0, 4]⟩, ⟨0, [13], [], []⟩, ⟨0, [149], [], []⟩, ⟨0, [150], [], []⟩, ⟨0, [151], [], [0, 4]⟩, ⟨0, [13], [], []⟩, ⟨0, [153], [], []⟩, ⟨0, [154], [], []⟩, ⟨0, [155], [], [0, 4]⟩, ⟨2, [6, 148], [], [0, 4]⟩, ⟨2, [7, 152], [9], [0, 4]⟩, ⟨0, [156], [9, 10], []⟩]), (41, [⟨0, [3], [], [0, 4]⟩, ⟨0, [13], [], []⟩, ⟨0, [162], [], []⟩, ⟨0, [163], [], []⟩, ⟨0, [164], [], [0, 4]⟩, ⟨2, [6, 161], [], [0, 4]⟩, ⟨2, [7, 165], [5], [0, 4]⟩, ⟨0, [], [5, 6], []⟩])] := ⟨(.cons c29.g (.cons c46.g (.cons c47.g (.cons c48.g (.cons c50.g (.cons c51.g (.cons c52.g (.cons g53 (.cons g54 (.cons c55.g (.nil _)))))))))))⟩

set_option maxRecDepth 8000 in
set_option maxHeartbeats 8000000 in
theorem c26 : ACon Try.prog 26 F26 := by
  refine aconc E_ok (rs := [.cell 6 56, .cell 7 49, .tmp 8 28]) Try.func26 rfl Try.ntmps26 (by kernel_rfl) rfl (by decide) F26 (np := 3) ?_ ?_
  · intro ts h; unfold F26; split <;> first | rfl | (simp at h; done)
  intro ts H r hF hwf
  unfold F26 at hF
  split at hF <;> try (cases hF; done)
  rename_i n img br x b
  split at hF
  case h_2 => cases hF
  rename_i d hd
  obtain ⟨rfl, hok⟩ := asRD_inv hd
  split at hF
  case isFalse => cases hF
  rename_i hc
  cases hF
  obtain ⟨⟨hn0, hn1, hb1⟩, ⟨hg, hp⟩, hw⟩ := hc
  obtain ⟨m, rfl⟩ : ∃ m : Nat, n = (m : Int) := ⟨n.toNat, by omega⟩
  rw [Int.toNat_natCast] at hw ⊢
  have hrm := rroom_c (n := m) (img := img) (br := br) (by omega)
  clear hd hwf
  by_cases hL : roomN m < (b.length : Int)
  · rw [show saveS ⟨m, img, br⟩ d b = (⟨m, img, br⟩, d, 4) from if_pos hL]
    generalize roomN m = R at *
    dsimp only
    obtain ⟨s, p, l, o⟩ := d
    repeat refine St2 (And.intro @RD.T.eq_def <| And.intro @rdk.eq_def <| And.intro hrm <| hL) ct26 ?_
    exact AWP.ret (Fin (And.intro @RD.T.eq_def <| And.intro @rdk.eq_def <| @rsT.eq_def) [] [])
  cases br with
  | true =>
    have hs : saveS ⟨m, img, true⟩ d b = (⟨m, img, true⟩, d, 7) := by unfold saveS; rw [if_neg hL, if_pos rfl]
    rw [hs]
    generalize roomN m = R at *
    dsimp only
    obtain ⟨s, p, l, o⟩ := d
    repeat refine St2 (And.intro @RD.T.eq_def <| And.intro @rdk.eq_def <| And.intro hrm <| hL) ct26 ?_
    exact AWP.ret (Fin (And.intro @RD.T.eq_def <| And.intro @rdk.eq_def <| @rsT.eq_def) [] [])
  | false =>
  cases ho : d.off with
  | true =>
    rw [saveS_down (s := ⟨m, img, false⟩) hL ho (by dsimp only; omega) (by dsimp only; omega)]
    generalize roomN m = R at *
    dsimp only
    obtain ⟨s, p, l, o⟩ := d
    dsimp only at ho
    subst ho
    repeat refine St2 (And.intro @RD.T.eq_def <| And.intro @rdk.eq_def <| And.intro hrm <| hL) ct26 ?_
    exact AWP.ret (Fin (And.intro @RD.T.eq_def <| And.intro @rdk.eq_def <| @rsT.eq_def) [] [])
  | false =>
  rw [saveS_on (s := ⟨m, img, false⟩) hL rfl ho (by dsimp only; omega)]
  have hll := lstN_le m
  have hfew : d.few d.s.length 60000 := ⟨hg, rfl, hp⟩
  have hli := rlists_c (n := m) (by omega)
  have hw1 : IntKind.i64.wrap (1 + (lstN m : Int)) = ((1 + lstN m : Nat) : Int) := by rw [wrap_i64 (by omega) (by omega)]; omega
  have hrd := rreads_c (n := m) hg (i := ((1 + lstN m : Nat) : Int)) (by omega) (by omega) (by omega)
  have hBl := rdB_len hg ho m (1 + lstN m) (by omega)
  have hbl : b.length + 4 ≤ m * 128 := by unfold roomN at hL; omega
  have hw2 : IntKind.u64.wrap (b.length : Int) = (b.length : Int) := wrap_u64 (by omega) (by omega)
  have hpu := put_c (b := []) (b.length : Int) 4 (by simp) (by omega) (by omega)
  rw [List.nil_append, show Int.toNat 4 = 4 from rfl] at hpu
  have hl4 := le_len 4 (b.length : Int)
  have hpd := rpadded_c (b := le 4 (b.length : Int) ++ b) (n := m) (by omega) (by rw [List.length_append, hl4]; omega)
  have hspl := spreadB_len hbl
  have hspd : le 4 (b.length : Int) ++ b ++ List.replicate (m * 128 - (le 4 (b.length : Int) ++ b).length) 0 = spreadB m b := by
    unfold spreadB
    rw [List.length_append, hl4]
    congr 2
    omega
  rw [hspd] at hpd
  clear hspd
  dsimp only
  rw [ho] at hrd
  generalize hwas : rdB m ((1 + lstN m : Nat) : Int) d = was at *
  generalize spreadB m b = want at *
  repeat refine St2 (And.intro @RD.T.eq_def <| And.intro @rdk.eq_def <| And.intro hrm <| And.intro hL <| And.intro ho <| And.intro hli <| And.intro hw1 <| And.intro hrd <| And.intro hw2 <| And.intro hpu <| And.intro hl4 <| hpd) ct26 ?_
  refine AWP.loop (G := { k : Nat // k ≤ m }) (fun k => ⟨[(2, .t (.by b)), (3, .ptr 0 0 []), (4, .ptr 1 0 []), (6, .ptr 2 0 []), (7, .ptr 3 0 []), (9, .t (.int .i64 (m : Int))), (10, .t (.int .i64 ((1 + lstN m : Nat) : Int))), (11, .t (.by was)), (12, .t (.by want)), (13, .ptr 4 0 []), (14, .own 5), (15, .t (.int .i64 ((chgN was want k.1).length : Int))), (16, .t (.int .i64 (k.1 : Int)))], [.bx (.t (.st [.int .i64 (m : Int), .by img, .bool false])), .bx (.t (.st [.sq 1 (d.s.map T.str), .sq 2 (d.p.map rp1), .int .i64 d.l, .bool false])), .bx (.t (.st [.int .i64 0, .nil, .bool false])), .bx (.t (.st [.nil, .nil, .int .i64 0, .bool false])), .bx (.t (.st [.st [.sq 1 (((oldN m was 0 (chgN was want k.1) ⟨d, 0⟩).d.s).map T.str), .sq 2 (((oldN m was 0 (chgN was want k.1) ⟨d, 0⟩).d.p).map rp1), .int .i64 ((oldN m was 0 (chgN was want k.1) ⟨d, 0⟩).d.l), .bool ((oldN m was 0 (chgN was want k.1) ⟨d, 0⟩).d.off)], .int .i64 ((oldN m was 0 (chgN was want k.1) ⟨d, 0⟩).e)])), .by (flL (chgN was want k.1))]⟩) (fun k => m - k.1) ⟨0, by omega⟩ (Wt (And.intro @chgN_zero <| And.intro (And.intro @oldN.eq_1 <| @oldN.eq_2) <| And.intro @flL_nil <| And.intro @List.length_nil.{0} <| And.intro @Int.natCast_zero <| ho) [2, 3, 4, 6, 7, 9, 10, 11, 12, 13, 14, 15, 16] [0, 1, 2, 3, 6, 7]) ?_
  rintro ⟨k, hk⟩
  dsimp only
  have hcs := chgN_succ was want k
  have hcl := chgN_le was want k
  have hfk := oldN_few (n := m) (was := was) (chgN was want k) 0 60000 ⟨d, 0⟩ hfew (by omega)
  have hfl := flL_len (chgN was want k)
  have hwk : ∀ q : Nat, q < 100000 → IntKind.i64.wrap ((q : Int) + 1) = ((q + 1 : Nat) : Int) := fun q hq => by rw [wrap_i64 (by omega) (by omega)]; omega
  by_cases hlt : k < m
  · have hlt2 : (k : Int) < (m : Int) := by omega
    have h1 := rpart_c (b := was) (i := k) (by omega) (by omega)
    have h2 := rpart_c (b := want) (i := k) (by omega) (by omega)
    have w1 := hwk k (by omega)
    have hpl : (partB was k).length = 128 := partB_len (by omega)
    have hsn := oldN_snoc m was k (chgN was want k) 0 ⟨d, 0⟩
    rw [Nat.zero_add] at hsn
    have hpt := rtput_c (oldN m was 0 (chgN was want k) ⟨d, 0⟩) ((1 + lstN m + m + (chgN was want k).length : Nat) : Int) (partB was k) hfk.g
    rw [putU_full _ _ hpl, ← hsn] at hpt
    have hps := put_c (b := flL (chgN was want k)) (k : Int) 4 (by omega) (by omega) (by omega)
    rw [show Int.toNat 4 = 4 from rfl, ← flL_snoc] at hps
    have v1 : IntKind.i64.wrap (((1 + lstN m : Nat) : Int) + (m : Int)) = ((1 + lstN m + m : Nat) : Int) := by rw [wrap_i64 (by omega) (by omega)]; omega
    have v2 : IntKind.i64.wrap (((1 + lstN m + m : Nat) : Int) + ((chgN was want k).length : Int)) = ((1 + lstN m + m + (chgN was want k).length : Nat) : Int) := by rw [wrap_i64 (by omega) (by omega)]; omega
    have v3 : IntKind.u64.wrap (k : Int) = (k : Int) := wrap_u64 (by omega) (by omega)
    have v4 := hwk (chgN was want k).length (by omega)
    have hlen1 : (chgN was want k ++ [k]).length = (chgN was want k).length + 1 := by simp
    generalize hC1 : chgN was want (k + 1) = C1 at *
    generalize chgN was want k = C0 at *
    generalize partB was k = a at *
    generalize partB want k = e at *
    cases hab : (a == e) with
    | true =>
      have hbn : (a != e) = false := by unfold bne; rw [hab]; rfl
      rw [hbn] at hcs
      simp only [Bool.false_eq_true, if_false, List.append_nil] at hcs
      clear hpt hps
      repeat refine St2 (And.intro hlt2 <| And.intro h1 <| And.intro h2 <| And.intro w1 <| And.intro hbn <| hab) ct26 ?_
      exact ⟨⟨k + 1, by omega⟩, (Wt (And.intro hC1 <| hcs) [2, 3, 4, 6, 7, 9, 10, 11, 12, 13, 14, 15, 16] [0, 1, 2, 3, 4, 5]), by simp only; omega⟩
    | false =>
      have hbn : (a != e) = true := by unfold bne; rw [hab]; rfl
      rw [hbn] at hcs
      simp only [if_true] at hcs
      generalize hT1 : oldN m was 0 (C0 ++ [k]) ⟨d, 0⟩ = T1 at *
      generalize oldN m was 0 C0 ⟨d, 0⟩ = T0 at *
      generalize hF1 : flL (C0 ++ [k]) = F1 at *
      generalize flL C0 = F0 at *
      generalize hI : 1 + lstN m + m + C0.length = I1 at *
      simp only [tqH] at hpt
      repeat refine St2 (And.intro hlt2 <| And.intro h1 <| And.intro h2 <| And.intro w1 <| And.intro hbn <| And.intro hab <| And.intro v1 <| And.intro v2 <| And.intro v3 <| And.intro v4 <| And.intro hpt <| hps) ct26 ?_
      exact ⟨⟨k + 1, by omega⟩, (Wt (And.intro hC1 <| And.intro hcs <| And.intro hT1 <| And.intro hF1 <| hlen1) [2, 3, 4, 6, 7, 9, 10, 11, 12, 13, 14, 15, 16] [0, 1, 2, 3, 4, 6]), by simp only; omega⟩
  obtain rfl : k = m := by omega
  have hlt2 : ¬ (k : Int) < (k : Int) := by omega
  have hcm : ∀ i ∈ chgN was want k, i < k := fun i hi => chgN_lt hi
  have hlb := listB_len hcl
  unfold turnT
  dsimp only
  by_cases hc0 : chgN was want k = []
  · rw [hc0] at hfk hcl hfl ⊢
    rw [if_pos rfl]
    have hc1 : ¬ (0 : Int) < (([] : List Nat).length : Int) := by simp
    rw [if_neg (by simp)]
    dsimp only [oldN]
    rw [ho]
    repeat refine St2 (And.intro hlt2 <| And.intro hc1 <| And.intro @RD.T.eq_def <| And.intro @rdk.eq_def <| ho) ct26 ?_
    exact AWP.ret (Fin (And.intro @RD.T.eq_def <| And.intro @rdk.eq_def <| And.intro @rsT.eq_def <| ho) [7] [])
  rw [if_neg hc0]
  have hc1 : (0 : Int) < ((chgN was want k).length : Int) := by
    have : (chgN was want k).length ≠ 0 := fun h => hc0 (List.length_eq_zero_iff.1 h)
    omega
  have hls : lstN k ≤ 300 := by unfold lstN; omega
  have hpl4 := le_len 4 ((chgN was want k).length : Int)
  have hfit : 4 + 4 * (chgN was want k).length ≤ lstN k * 128 := by unfold lstN; omega
  have hps := put_c (b := []) ((chgN was want k).length : Int) 4 (by simp) (by omega) (by omega)
  rw [List.nil_append, show Int.toNat 4 = 4 from rfl] at hps
  have hpd2 := rpadded_c (b := le 4 ((chgN was want k).length : Int) ++ flL (chgN was want k)) (n := lstN k) (by omega) (by rw [List.length_append, hpl4, hfl]; omega)
  rw [show le 4 ((chgN was want k).length : Int) ++ flL (chgN was want k) ++ List.replicate (lstN k * 128 - (le 4 ((chgN was want k).length : Int) ++ flL (chgN was want k)).length) 0 = listB k (chgN was want k) from rfl] at hpd2
  have v5 : IntKind.u64.wrap ((chgN was want k).length : Int) = ((chgN was want k).length : Int) := wrap_u64 (by omega) (by omega)
  have hnk : ∀ j i, (chgN was want k)[j]? = some i → numAt (listB k (chgN was want k)) (4 * (j + 1)) = i := fun j i hj => numAt_listk hj (by have := hcm i (List.mem_of_getElem? hj); omega)
  have hfw0 : (oldN k was 0 (chgN was want k) ⟨d, 0⟩).d.few d.s.length 70000 := ⟨hfk.g, hfk.w, Nat.le_trans hfk.p (by omega)⟩
  clear hfk
  generalize hT0 : oldN k was 0 (chgN was want k) ⟨d, 0⟩ = T0 at *
  generalize chgN was want k = c at *
  have hfl2 : (flL c).length ≤ 100000 := by omega
  repeat refine St2 (And.intro hlt2 <| And.intro hc1 <| And.intro hps <| And.intro v5 <| And.intro hpl4 <| And.intro hfl2 <| And.intro hli <| hpd2) ct26 ?_
  clear hps hpd2
  generalize listB k c = B at *
  refine AWP.loop (G := { i : Nat // i ≤ lstN k }) (fun i => ⟨[(2, .t (.by b)), (3, .ptr 0 0 []), (4, .ptr 1 0 []), (6, .ptr 2 0 []), (7, .ptr 3 0 []), (9, .t (.int .i64 (k : Int))), (10, .t (.int .i64 ((1 + lstN k : Nat) : Int))), (12, .t (.by want)), (13, .ptr 4 0 []), (14, .t (.by B)), (15, .t (.int .i64 (c.length : Int))), (17, .t (.int .i64 (i.1 : Int)))], [.bx (.t (.st [.int .i64 (k : Int), .by img, .bool false])), .bx (.t (.st [.sq 1 (d.s.map T.str), .sq 2 (d.p.map rp1), .int .i64 d.l, .bool false])), .bx (.t (.st [.int .i64 0, .nil, .bool false])), .bx (.t (.st [.nil, .nil, .int .i64 0, .bool false])), .bx (.t (.st [.st [.sq 1 (((lsN B i.1 0 T0).d.s).map T.str), .sq 2 (((lsN B i.1 0 T0).d.p).map rp1), .int .i64 ((lsN B i.1 0 T0).d.l), .bool ((lsN B i.1 0 T0).d.off)], .int .i64 ((lsN B i.1 0 T0).e)]))]⟩) (fun i => lstN k - i.1) ⟨0, by omega⟩ (Wt (And.intro @lsN.eq_1 <| @lsN.eq_2) [2, 3, 4, 6, 7, 9, 10, 12, 13, 14, 15, 17] [0, 1, 2, 3, 4]) ?_
  rintro ⟨i, hi⟩
  dsimp only
  have hfi := lsN_few (b := B) i 0 70000 T0 hfw0 (by omega)
  by_cases hlt : i < lstN k
  · have hlt3 : (i : Int) < (lstN k : Int) := by omega
    have hsn := lsN_snoc B i 0 T0
    rw [Nat.zero_add] at hsn
    have h1 := rpart_c (b := B) (i := i) (by omega) (by omega)
    have hpl : (partB B i).length = 128 := partB_len (by omega)
    have hpt := rtput_c (lsN B i 0 T0) ((1 + i : Nat) : Int) (partB B i) hfi.g
    rw [putU_full _ _ hpl, ← hsn] at hpt
    have u1 : IntKind.i64.wrap (1 + (i : Int)) = ((1 + i : Nat) : Int) := by rw [wrap_i64 (by omega) (by omega)]; omega
    have u2 := hwk i (by omega)
    generalize hT1 : lsN B (i + 1) 0 T0 = T1 at *
    generalize lsN B i 0 T0 = T2 at *
    generalize partB B i = a at *
    generalize hI : 1 + i = I1 at *
    simp only [tqH] at hpt
    repeat refine St2 (And.intro hlt3 <| And.intro hli <| And.intro h1 <| And.intro u1 <| And.intro u2 <| hpt) ct26 ?_
    exact ⟨⟨i + 1, by omega⟩, (Wt hT1 [2, 3, 4, 6, 7, 9, 10, 12, 13, 14, 15, 17] [0, 1, 2, 3, 4]), by simp only; omega⟩
  obtain rfl : i = lstN k := by omega
  have hlt3 : ¬ (lstN k : Int) < (lstN k : Int) := by omega
  have q1 := rtsync_c (lsN B (lstN k) 0 T0) hfi.g
  have hf2 := syncT_few hfi
  generalize lsN B (lstN k) 0 T0 = T3 at *
  have q2 := rtput_c (syncT T3) 0 (padS [1]) hf2.g
  have hf3 := putU_few hf2 (by omega) (i := 0) (b := padS [1])
  have q3 := rtsync_c (putU (syncT T3) 0 (padS [1])) hf3.g
  have hf4 := syncT_few hf3
  rw [show flagT (syncT T3) 1 = syncT (putU (syncT T3) 0 (padS [1])) from rfl]
  generalize syncT (putU (syncT T3) 0 (padS [1])) = T6 at *
  generalize putU (syncT T3) 0 (padS [1]) = T5 at *
  generalize syncT T3 = T4 at *
  have h0c : UInt8.ofNat 1 = 1 := rfl
  simp only [tqH] at q1 q2 q3
  repeat refine St2 (And.intro hlt3 <| And.intro hli <| And.intro q1 <| And.intro q2 <| And.intro q3 <| And.intro @F55.eq_def <| h0c) ct26 ?_
  clear q1 q2 q3 hfi hf2 hf3
  refine AWP.loop (G := { j : Nat // j ≤ c.length }) (fun j => ⟨[(2, .t (.by b)), (3, .ptr 0 0 []), (4, .ptr 1 0 []), (6, .ptr 2 0 []), (7, .ptr 3 0 []), (9, .t (.int .i64 (k : Int))), (10, .t (.int .i64 ((1 + lstN k : Nat) : Int))), (12, .t (.by want)), (13, .ptr 4 0 []), (14, .t (.by B)), (15, .t (.int .i64 (c.length : Int))), (18, .t (.int .i64 (j.1 : Int)))], [.bx (.t (.st [.int .i64 (k : Int), .by img, .bool false])), .bx (.t (.st [.sq 1 (d.s.map T.str), .sq 2 (d.p.map rp1), .int .i64 d.l, .bool false])), .bx (.t (.st [.int .i64 0, .nil, .bool false])), .bx (.t (.st [.nil, .nil, .int .i64 0, .bool false])), .bx (.t (.st [.st [.sq 1 (((newN k want (c.take j.1) T6).d.s).map T.str), .sq 2 (((newN k want (c.take j.1) T6).d.p).map rp1), .int .i64 ((newN k want (c.take j.1) T6).d.l), .bool ((newN k want (c.take j.1) T6).d.off)], .int .i64 ((newN k want (c.take j.1) T6).e)]))]⟩) (fun j => c.length - j.1) ⟨0, by omega⟩ (Wt (And.intro (And.intro @newN.eq_1 <| @newN.eq_2) <| @List.take_zero.{0}) [2, 3, 4, 6, 7, 9, 10, 12, 13, 14, 15, 18] [0, 1, 2, 3, 4]) ?_
  rintro ⟨j, hj⟩
  dsimp only
  have hfj := newN_few (n := k) (want := want) (c.take j) _ T6 hf4 (by rw [List.length_take]; omega)
  by_cases hlj : j < c.length
  · have hlj2 : (j : Int) < (c.length : Int) := by omega
    have hcj : c[j]? = some (c.getD j 0) := by simp [hlj]
    have hxn := hcm _ (List.mem_of_getElem? hcj)
    have hnm := hnk j _ hcj
    have hsn := newN_snoc k want (c.getD j 0) (c.take j) T6
    rw [show c.take j ++ [c.getD j 0] = c.take (j + 1) by rw [List.take_add_one, hcj]; rfl] at hsn
    have h0 := rnumber_c (b := B) (a := 4 * (j + 1)) (by omega) (by omega)
    rw [hnm] at h0
    have h1 := rpart_c (b := want) (i := c.getD j 0) (by omega) (by omega)
    have hpl : (partB want (c.getD j 0)).length = 128 := partB_len (by omega)
    have hpt := rtput_c (newN k want (c.take j) T6) ((1 + lstN k + c.getD j 0 : Nat) : Int) (partB want (c.getD j 0)) hfj.g
    rw [putU_full _ _ hpl, ← hsn] at hpt
    have u1 : IntKind.i64.wrap (4 * (j : Int)) = ((4 * j : Nat) : Int) := by rw [wrap_i64 (by omega) (by omega)]; omega
    have u2 : IntKind.i64.wrap (4 + ((4 * j : Nat) : Int)) = ((4 * (j + 1) : Nat) : Int) := by rw [wrap_i64 (by omega) (by omega)]; omega
    have u3 : IntKind.i64.wrap (((1 + lstN k : Nat) : Int) + ((c.getD j 0 : Nat) : Int)) = ((1 + lstN k + c.getD j 0 : Nat) : Int) := by rw [wrap_i64 (by omega) (by omega)]; omega
    have u4 := hwk j (by omega)
    generalize hT1 : newN k want (c.take (j + 1)) T6 = T7 at *
    generalize newN k want (c.take j) T6 = T8 at *
    generalize c.getD j 0 = x at *
    generalize partB want x = a at *
    generalize hI : 1 + lstN k + x = I1 at *
    simp only [tqH] at hpt
    repeat refine St2 (And.intro hlj2 <| And.intro h0 <| And.intro h1 <| And.intro u1 <| And.intro u2 <| And.intro u3 <| And.intro u4 <| hpt) ct26 ?_
    exact ⟨⟨j + 1, by omega⟩, (Wt hT1 [2, 3, 4, 6, 7, 9, 10, 12, 13, 14, 15, 18] [0, 1, 2, 3, 4]), by simp only; omega⟩
  obtain rfl : j = c.length := by omega
  have hlj2 : ¬ (c.length : Int) < (c.length : Int) := by omega
  rw [List.take_length] at hfj ⊢
  have q1 := rtsync_c (newN k want c T6) hfj.g
  have hf2 := syncT_few hfj
  generalize newN k want c T6 = T3 at *
  have q2 := rtput_c (syncT T3) 0 (padS [0]) hf2.g
  have hf3 := putU_few hf2 (by omega) (i := 0) (b := padS [0])
  have q3 := rtsync_c (putU (syncT T3) 0 (padS [0])) hf3.g
  rw [show flagT (syncT T3) 0 = syncT (putU (syncT T3) 0 (padS [0])) from rfl]
  generalize syncT (putU (syncT T3) 0 (padS [0])) = t at *
  generalize putU (syncT T3) 0 (padS [0]) = T5 at *
  generalize syncT T3 = T4 at *
  have h0d : UInt8.ofNat 0 = 0 := rfl
  obtain ⟨⟨t1, t2, t3, t4⟩, t5⟩ := t
  simp only [tqH] at q1 q2 q3
  dsimp only at q3 ⊢
  by_cases he : t5 = 0
  · subst he
    rw [if_neg (by simp)]
    dsimp only
    repeat refine St2 (And.intro hlj2 <| And.intro q1 <| And.intro q2 <| And.intro q3 <| And.intro @F55.eq_def <| h0d) ct26 ?_
    exact AWP.ret (Fin (And.intro @RD.T.eq_def <| And.intro @rdk.eq_def <| @rsT.eq_def) [6] [])
  · rw [if_pos he]
    have he2 : (t5 != 0) = true := by simpa using he
    dsimp only
    repeat refine St2 (And.intro hlj2 <| And.intro q1 <| And.intro q2 <| And.intro q3 <| And.intro @F55.eq_def <| And.intro h0d <| he2) ct26 ?_
    exact AWP.ret (Fin (And.intro @RD.T.eq_def <| And.intro @rdk.eq_def <| @rsT.eq_def) [] [])

theorem rsave_c (s : SS) (d : RD) (b : List UInt8) (h1 : 0 < s.n) (h2 : s.n ≤ 8192) (h3 : b.length ≤ 100000000) (hg : d.good = true) (hp : d.p.length ≤ 60000) (hw : 1 + lstN s.n + 2 * s.n ≤ d.s.length) :
    F26 [.st [.int .i64 (s.n : Int), .by s.img, .bool s.broken], .st [.sq 1 (d.s.map T.str), .sq 2 (d.p.map rp1), .int .i64 d.l, .bool d.off], .by b] = some ([], .tup [.t (rsT (saveS s d b).1), .t (saveS s d b).2.1.T, .t (.int .i64 (saveS s d b).2.2)]) := by
  have h0 := asRD_T (good_iff.1 hg).1
  simp only [RD.T, rdk] at h0
  simp only [F26, h0]
  rw [Int.toNat_natCast]
  exact if_pos ⟨⟨by omega, by omega, h3⟩, ⟨hg, hp⟩, hw⟩

end Go.Fw

end

section
/- Chapter 28: StorePlays: its code walked. -/
namespace Go.Fw
open Go Go.Proofs
set_option linter.unusedVariables false
set_option linter.unusedSimpArgs false

noncomputable def F7 : Fun
  | [.int .i64 n, y] => match inv actsT y with
    | some l => some ([], .t (.bool true))
    | none => none
  | _ => none

theorem ct7 : CT [(9, ⟨[true], G9⟩), (10, ⟨[true, false], G10⟩), (11, ⟨[true], G11⟩), (12, ⟨[], treeG F12⟩), (13, ⟨[true], G13⟩), (14, ⟨[false], treeG F14⟩), (15, ⟨[false], treeG F15⟩), (16, ⟨[false], treeG F16⟩), (17, ⟨[true, false], G17⟩), (18, ⟨[true, false], G18⟩), (19, ⟨[false], treeG F19⟩), (23, ⟨[false], treeG F23⟩), (24, ⟨[true], G24⟩), (25, ⟨[false], treeG F25⟩), (26, ⟨[false, false, false], treeG F26⟩), (27, ⟨[false, false], treeG F27⟩), (28, ⟨[false, false], treeG F28⟩), (29, ⟨[false], treeG F29⟩)] [0, 1, 4, 5, 6, 7, 8, 9, 10, 11, 12, 13, 14, 15, 16, 17, 18, 19, 20, 21, 22, 64, 66, 75, 84, 86, 87, 102, 107, 135, 138, 179] [(19, [⟨1, [12], [], []⟩, ⟨1, [8], [], []⟩, ⟨1, [15], [], []⟩, ⟨1, [96], [2], []⟩, ⟨1, [94, 95, 97], [0, 1, 2, 3], []⟩, ⟨0, [98], [0, 1, 2, 3, 4], []⟩, ⟨0, [93], [0, 1, 2, 3, 4], []⟩, ⟨0, [93], [0, 1, 2, 3, 4], []⟩, ⟨0, [93], [0, 1, 2, 3, 4], []⟩, ⟨2, [12, 99], [0, 1, 2, 3, 4], []⟩, ⟨2, [8, 100], [0, 1, 2, 3, 4, 9], []⟩, ⟨0, [101], [0, 1, 2, 3, 4, 9, 10], []⟩]), (27, [⟨0, [19], [], []⟩, ⟨0, [22], [], []⟩, ⟨1, [21], [], []⟩, ⟨0, [127], [], []⟩, ⟨0, [128], [], []⟩, ⟨2, [8, 129], [2], []⟩]), (29, [⟨0, [18], [], []⟩, ⟨1, [20], [], []⟩, ⟨0, [136], [], []⟩, ⟨2, [12, 137], [1], []⟩]), (33, (List.cons (⟨0, [16], [], []⟩ : Info) <| List.cons (⟨0, [17], [], []⟩ : Info) <| List.cons (⟨0, [148, 149], [], []⟩ : Info) <| List.cons (⟨0, [150], [], []⟩ : Info) <| List.cons (⟨0, [10], [], []⟩ : Info) <| List.cons (⟨0, [152], [], []⟩ : Info) <| List.cons (⟨0, [151, 153], [], []⟩ : Info) <| List.cons (⟨0, [154], [], []⟩ : Info) <| List.cons (⟨0, [10], [], []⟩ : Info) <| List.cons (⟨1, [156], [], []⟩ : Info) <| List.cons (⟨1, [157], [9], []⟩ : Info) <| List.cons (⟨0, [12], [], []⟩ : Info) <| List.cons (⟨1, [159], [], []⟩ : Info) <| List.cons (⟨1, [160], [12], []⟩ : Info) <| List.cons (⟨0, [158, 161], [9, 10, 12, 13], []⟩ : Info) <| List.cons (⟨0, [155, 162], [9, 10, 12, 13], []⟩ : Info) <| List.cons (⟨0, [163], [9, 10, 12, 13], []⟩ : Info) <| List.cons (⟨0, [10], [9, 10, 12, 13], []⟩ : Info) <| List.cons (⟨1, [165], [9, 10, 12, 13], []⟩ : Info) <| List.cons (⟨1, [12], [9, 10, 12, 13], []⟩ : Info) <| List.cons (⟨1, [167], [9, 10, 12, 13, 18, 19], []⟩ : Info) <| List.cons (⟨0, [166, 168], [9, 10, 12, 13, 18, 19, 20], []⟩ : Info) <| List.cons (⟨0, [164, 169], [9, 10, 12, 13, 18, 19, 20], []⟩ : Info) <| List.cons (⟨0, [170], [9, 10, 12, 13, 18, 19, 20], []⟩ : Info) <| List.cons (⟨0, [6], [9, 10, 12, 13, 18, 19, 20], []⟩ : Info) <| List.cons (⟨1, [172], [9, 10, 12, 13, 18, 19, 20], []⟩ : Info) <| List.cons (⟨1, [173], [9, 10, 12, 13, 18, 19, 20, 25], []⟩ : Info) <| List.cons (⟨1, [8], [9, 10, 12, 13, 18, 19, 20], []⟩ : Info) <| List.cons (⟨1, [175], [9, 10, 12, 13, 18, 19, 20, 25, 27], []⟩ : Info) <| List.cons (⟨1, [176], [9, 10, 12, 13, 18, 19, 20, 25, 27, 28], []⟩ : Info) <| List.cons (⟨0, [174, 177], [9, 10, 12, 13, 18, 19, 20, 25, 26, 27, 28, 29], []⟩ : Info) <| List.cons (⟨0, [171, 178], [9, 10, 12, 13, 18, 19, 20, 25, 26, 27, 28, 29], []⟩ : Info) <| []))] := ⟨(.cons g9 (.cons g10 (.cons g11 (.cons c12.g (.cons g13 (.cons c14.g (.cons c15.g (.cons c16.g (.cons g17 (.cons g18 (.cons c19.g (.cons c23.g (.cons g24 (.cons c25.g (.cons c26.g (.cons c27.g (.cons c28.g (.cons c29.g (.nil _)))))))))))))))))))⟩

theorem abits_31 (n : Int) : ∃ w : Nat, abits .and .i64 n 31 = (w : Int) ∧ w ≤ 31 := by
  have hp : ∃ a : Nat, abits .and .i64 n 31 = IntKind.i64.wrap ((a &&& 31 : Nat) : Int) := ⟨_, rfl⟩
  obtain ⟨a, ha⟩ := hp
  have h31 : a &&& 31 ≤ 31 := Nat.and_le_right
  exact ⟨a &&& 31, by rw [ha, wrap_i64 (by omega) (by omega)], h31⟩
theorem rcrash_c {d : RD} (hg : d.good = true) (ks : List Int) : F27 [.st [.sq 1 (d.s.map T.str), .sq 2 (d.p.map rp1), .int .i64 d.l, .bool d.off], .sq 1 (ks.map (T.int .i64))] = some ([], .t (.st [.sq 1 ((cD d ks).s.map T.str), .sq 2 ((cD d ks).p.map rp1), .int .i64 (cD d ks).l, .bool (cD d ks).off])) := by
  have h3 := asRD_T (good_iff.1 hg).1
  simp only [RD.T, rdk] at h3
  simp only [F27, h3, asInts_map, laidN_crash]
  rfl
theorem rfuse_c {d : RD} (hg : d.good = true) (k : Int) : F28 [.st [.sq 1 (d.s.map T.str), .sq 2 (d.p.map rp1), .int .i64 d.l, .bool d.off], .int .i64 k] = some ([], .t (.st [.sq 1 ((fuR d k).s.map T.str), .sq 2 ((fuR d k).p.map rp1), .int .i64 (fuR d k).l, .bool (fuR d k).off])) := by
  have h3 := asRD_T (good_iff.1 hg).1
  simp only [RD.T, rdk] at h3
  simp only [F28, h3]
  rfl
theorem crR_cD2 (d : RD) (ks : List Int) : crR d ks = cD d ks := by unfold crR cD Cr; rw [laidN_crash]
structure PS where
  i : Nat
  d : RD
  br : Bool
  img : List UInt8

set_option maxRecDepth 20000 in
set_option maxHeartbeats 30000000 in
theorem c7 : ACon Try.prog 7 F7 := by
  refine aconc E_ok (rs := [.tmp 4 4]) Try.func7 rfl Try.ntmps7 (by kernel_rfl) rfl (by decide) F7 (np := 2) ?_ ?_
  · intro ts h; unfold F7; split <;> first | rfl | (simp at h; done)
  intro ts H r hF hwf
  unfold F7 at hF
  split at hF <;> try (cases hF; done)
  rename_i n0 y
  split at hF <;> try (cases hF; done)
  rename_i l hl
  cases hF
  obtain rfl := inv_inv hl
  have hwl : (actsT l).wf := hwf _ (by simp)
  dsimp only [actsT]
  have ml : (l.map actT).length = l.length := List.length_map ..
  obtain ⟨w0, hw, hw31⟩ := abits_31 n0
  obtain ⟨w, hwe⟩ : ∃ w, w = 1 + w0 := ⟨_, rfl⟩
  have w1 : IntKind.i64.wrap (1 + (w0 : Int)) = (w : Int) := by rw [wrap_i64 (by omega) (by omega)]; omega
  have hnd := newdisk_c (n := w) (by omega) (by omega)
  have hrn := rnew_c (w := w) (by omega) (by omega)
  have hW0 := newD_well (n := w) (by omega)
  have hf0 : (newD w).few w 0 := hW0.f
  have hoc := open_c (newD w) hW0.f.g (by show (0 : Nat) ≤ 90000; omega) (by have := hW0.f.w; dsimp only at this; omega)
  have hro := ropen_c (d := newD w) hW0.f.g (by show (0 : Nat) ≤ 80000; omega) (by have := hW0.f.w; dsimp only at this; omega)
  have hsl : slots w ≤ 16 := by
    by_cases h : 0 < slots w
    · have := slots_fit h; omega
    · omega
  by_cases hs0 : slots w = 0
  · have ho : openS (newD w) = (none, newD w, 1) := by
      unfold openS
      rw [hf0.w]
      dsimp only
      rw [if_pos hs0]
    rw [ho] at hoc hro
    generalize newD w = d0 at *
    simp only [dN, dH, openB, ropB, RD.T, rdk, List.cons_append, List.nil_append] at hnd hoc hro
    repeat refine St2 (And.intro hw <| And.intro w1 <| And.intro hnd <| And.intro hrn <| And.intro hoc <| And.intro hro <| @F12.eq_def) ct7 ?_
    exact AWP.ret (Fin trivial [] [])
  have ho := newD_open (w := w) (n := slots w) (by omega) rfl (by omega)
  rw [ho] at hoc hro
  clear ho hW0
  have hn0 : 0 < slots w := by omega
  have hfit := slots_fit hn0
  generalize hsn : slots w = n at *
  have hln : lstN n ≤ 17 := by have := lstN_le n; omega
  generalize newD w = d0 at *
  simp only [dN, dH, openB, ropB, rsT, RD.T, rdk, stB, List.cons_append, List.nil_append] at hnd hoc hro
  repeat refine St2 (And.intro hw <| And.intro w1 <| And.intro hnd <| And.intro hrn <| And.intro hoc <| And.intro hro <| ml) ct7 ?_
  refine AWP.loop (G := { x : PS // x.i ≤ l.length ∧ x.i ≤ 30 ∧ x.d.few w (200 * x.i) ∧ x.img.length ≤ 5000 }) (fun x => ⟨[(1, .t (.sq 4 (l.map actT))), (6, .ptr 0 0 []), (8, .ptr 5 0 []), (10, .ptr 4 0 []), (12, .ptr 6 0 []), (14, .t (.int .i64 (x.1.i : Int)))], [.bx (.st [.own 1, .own 2, .own 3, .t (.int .i64 x.1.d.l), .t (.bool x.1.d.off)]), .sq 128 (x.1.d.s.map (T.ba 128)), .sq 128 ((layP x.1.d.s x.1.d.p).map (T.ba 128)), .sq 129 (x.1.d.p.map pnd1), .bx (.st [.t (.st [.int .i64 (n : Int), .int .i64 (lstN n : Int)]), .ptr 0 0 [], .t (.by x.1.img), .t (.bool x.1.br)]), .bx (.t (.st [.sq 1 (x.1.d.s.map T.str), .sq 2 (x.1.d.p.map rp1), .int .i64 x.1.d.l, .bool x.1.d.off])), .bx (.t (.st [.int .i64 (n : Int), .by x.1.img, .bool x.1.br]))]⟩) (fun x => l.length - x.1.i) ⟨⟨0, d0, false, []⟩, Nat.zero_le _, Nat.zero_le _, hf0, Nat.zero_le _⟩ (Wt ml [1, 6, 8, 10, 12, 14] [0, 1, 2, 5, 6, 4, 7]) ?_
  rintro ⟨⟨i, d, br, img⟩, hi, hi30, hf, him⟩
  dsimp only at hi hi30 hf him ⊢
  by_cases hlt : i < l.length
  rotate_left
  · have hlt2 : ¬ (i : Int) < (l.length : Int) := by omega
    repeat refine St2 (And.intro hlt2 <| And.intro ml <| @F12.eq_def) ct7 ?_
    exact AWP.ret (Fin trivial [] [])
  have hlt2 : (i : Int) < (l.length : Int) := by omega
  by_cases h30 : (i : Int) < 30
  rotate_left
  · repeat refine St2 (And.intro hlt2 <| And.intro h30 <| And.intro ml <| @F12.eq_def) ct7 ?_
    exact AWP.ret (Fin trivial [] [])
  have hw2 : IntKind.i64.wrap ((i : Int) + 1) = ((i + 1 : Nat) : Int) := by rw [wrap_i64 (by omega) (by omega)]; omega
  have g := act_getD l i hlt
  have hga : l[i]? = some (l.getD i dAct) := by simp [hlt]
  obtain ⟨q1, q2, q3⟩ := acts_wf hwl hga
  have sm := small_c (l.getD i dAct)
  have im := image_c (l.getD i dAct)
  have hil := imgB_len (l.getD i dAct).n (l.getD i dAct).b
  clear hga
  generalize l.getD i dAct = a at *
  obtain ⟨k, na, b, ks⟩ := a
  dsimp only at q1 q2 q3 sm im hil
  simp only [actT] at g
  have tells : ∀ (D : RD) (B : List UInt8) (r : Bool), D.few w 20000 → B.length ≤ 5000 →
      G13 [.bx (.st [.t (.st [.int .i64 (n : Int), .int .i64 (lstN n : Int)]), .ptr 1 0 [], .t (.by B), .t (.bool r)]), .bx (.st [.own 2, .own 3, .own 4, .t (.int .i64 D.l), .t (.bool D.off)]), .sq 128 (D.s.map (T.ba 128)), .sq 128 ((layP D.s D.p).map (T.ba 128)), .sq 129 (D.p.map pnd1)] [.ptr 0 0 []] = some (stH (⟨n, B, r⟩, D), .t (.by B)) ∧
      G9 [.bx (.st [.t (.st [.int .i64 (n : Int), .int .i64 (lstN n : Int)]), .ptr 1 0 [], .t (.by B), .t (.bool r)]), .bx (.st [.own 2, .own 3, .own 4, .t (.int .i64 D.l), .t (.bool D.off)]), .sq 128 (D.s.map (T.ba 128)), .sq 128 ((layP D.s D.p).map (T.ba 128)), .sq 129 (D.p.map pnd1)] [.ptr 0 0 []] = some (stH (⟨n, B, r⟩, D), .t (.int .i64 (roomN n))) ∧
      F29 [.st [.int .i64 (n : Int), .by B, .bool r]] = some ([], .t (.int .i64 (roomN n))) ∧
      G24 [.bx (.st [.own 1, .own 2, .own 3, .t (.int .i64 D.l), .t (.bool D.off)]), .sq 128 (D.s.map (T.ba 128)), .sq 128 ((layP D.s D.p).map (T.ba 128)), .sq 129 (D.p.map pnd1)] [.ptr 0 0 []] = some (dH D, .t (.by (layP D.s D.p).flatten)) ∧
      F25 [.st [.sq 1 (D.s.map T.str), .sq 2 (D.p.map rp1), .int .i64 D.l, .bool D.off]] = some ([], .t (.by (layP D.s D.p).flatten)) := fun D B r hD hB =>
    ⟨load_stc ⟨n, B, r⟩ D (by dsimp only; omega), room_stc ⟨n, B, r⟩ D (by dsimp only; omega), rroom_c (by omega), dump_c D hD.g (by have := hD.w; omega), rdump_c hD.g⟩
  simp only [stH, stB, dH] at tells
  have bne_s : ∀ z : List UInt8, (z != z) = false := fun z => by simp
  have bne_i : ∀ z : Int, (z != z) = false := fun z => by simp
  by_cases hsm : smA ⟨k, na, b, ks⟩ = true
  rotate_left
  · have hsm : smA ⟨k, na, b, ks⟩ = false := by simpa using hsm
    rw [hsm] at sm
    have hf' : d.few w (200 * (i + 1)) := ⟨hf.g, hf.w, Nat.le_trans hf.p (by omega)⟩
    have hi' := him
    repeat refine St2 (And.intro hlt <| And.intro hlt2 <| And.intro h30 <| And.intro ml <| And.intro hw2 <| And.intro g <| sm) ct7 ?_
    exact ⟨⟨⟨i + 1, d, br, img⟩, by show i + 1 ≤ l.length; omega, by show i + 1 ≤ 30; omega, hf', hi'⟩, (Wt trivial [1, 6, 8, 10, 12, 14] [0, 1, 2, 3, 4, 5, 6]), by simp only; omega⟩
  rw [hsm] at sm
  have hks : ks.length ≤ 100 := by
    unfold smA at hsm
    rw [Bool.and_eq_true, decide_eq_true_eq, decide_eq_true_eq] at hsm
    exact hsm.2
  generalize imgB na b = B at *
  by_cases k1 : k = 1
  · subst k1
    have hSv := save_c ⟨n, img, br⟩ d B (by dsimp only; omega) (by omega) hf.g (by have := hf.p; omega)
    have hSr := rsave_c ⟨n, img, br⟩ d B hn0 (by dsimp only; omega) (by omega) hf.g (by have := hf.p; omega) (by dsimp only; rw [hf.w]; omega)
    obtain ⟨sf1, sf2, sf3⟩ := saveS_few (s := ⟨n, img, br⟩) (b := B) hf (by dsimp only; omega)
    have sf4 := sf3 5000 him (by omega)
    dsimp only at sf1 sf2 hSr
    clear sf3
    generalize saveS ⟨n, img, br⟩ d B = R at *
    obtain ⟨⟨n', img', br'⟩, d', e'⟩ := R
    dsimp only at sf1 sf2 sf4 hSv hSr
    subst sf2
    have hf' : d'.few w (200 * (i + 1)) := ⟨sf1.g, sf1.w, Nat.le_trans sf1.p (by omega)⟩
    have hi' := sf4
    obtain ⟨t1, t2, t3, t4, t5⟩ := tells d' img' br' ⟨sf1.g, sf1.w, Nat.le_trans sf1.p (by omega)⟩ sf4
    simp only [stH, stN, stB, dN, dH, rsT, RD.T, rdk, List.cons_append, List.nil_append] at hSv hSr
    have be := bne_i e'
    have br1 := bne_i (roomN n')
    have bi := bne_s img'
    have bd := bne_s (layP d'.s d'.p).flatten
    repeat refine St2 (And.intro hlt <| And.intro hlt2 <| And.intro h30 <| And.intro ml <| And.intro hw2 <| And.intro g <| And.intro sm <| And.intro im <| And.intro hSv <| And.intro hSr <| And.intro t1 <| And.intro t2 <| And.intro t3 <| And.intro t4 <| And.intro t5 <| And.intro be <| And.intro br1 <| And.intro bi <| bd) ct7 ?_
    exact ⟨⟨⟨i + 1, d', br', img'⟩, by show i + 1 ≤ l.length; omega, by show i + 1 ≤ 30; omega, hf', hi'⟩, (Wt trivial [1, 6, 8, 10, 12, 14] [0, 1, 2, 8, 4, 5, 6]), by simp only; omega⟩
  have k1b : (k == 1) = false := by simpa using k1
  by_cases k2 : k = 2
  · subst k2
    have hC := crash_c d ks hf.g (by omega)
    rw [crR_cD2] at hC
    have hCr := rcrash_c hf.g ks
    have hcw := cr_well hf ks
    have hD : (cD d ks).few w 0 := hcw.f
    generalize cD d ks = dc at *
    simp only [dN, dH, List.cons_append, List.nil_append] at hC
    have hOp := open_c dc hD.g (Nat.le_trans hD.p (by omega)) (by have := hD.w; omega)
    have hOr := ropen_c (d := dc) hD.g (Nat.le_trans hD.p (by omega)) (by have := hD.w; omega)
    rcases open_cases hD (by omega) with ⟨b', d', ho, _, hbl, hfw⟩ | ⟨d', e, ho, he, hfw⟩
    · rw [ho] at hOp hOr
      rw [hsn] at hOp hOr hbl
      have hf' : d'.few w (200 * (i + 1)) := ⟨hfw.g, hfw.w, Nat.le_trans hfw.p (by omega)⟩
      have hi' : b'.length ≤ 5000 := by omega
      clear ho
      obtain ⟨t1, t2, t3, t4, t5⟩ := tells d' b' false ⟨hfw.g, hfw.w, Nat.le_trans hfw.p (by omega)⟩ hi'
      have br1 := bne_i (roomN n)
      have bi := bne_s b'
      have bd := bne_s (layP d'.s d'.p).flatten
      simp only [dN, dH, openB, ropB, rsT, RD.T, rdk, stB, List.cons_append, List.nil_append] at hOp hOr
      repeat refine St2 (And.intro hlt <| And.intro hlt2 <| And.intro h30 <| And.intro ml <| And.intro hw2 <| And.intro g <| And.intro sm <| And.intro k1b <| And.intro hC <| And.intro hCr <| And.intro hOp <| And.intro hOr <| And.intro t1 <| And.intro t2 <| And.intro t3 <| And.intro t4 <| And.intro t5 <| And.intro br1 <| And.intro bi <| bd) ct7 ?_
      exact ⟨⟨⟨i + 1, d', false, b'⟩, by show i + 1 ≤ l.length; omega, by show i + 1 ≤ 30; omega, hf', hi'⟩, (Wt trivial [1, 6, 8, 10, 12, 14] [0, 1, 2, 9, 10, 5, 6]), by simp only; omega⟩
    · rw [ho] at hOp hOr
      have hf' : d'.few w (200 * (i + 1)) := ⟨hfw.g, hfw.w, Nat.le_trans hfw.p (by omega)⟩
      have hi' := him
      clear ho
      have he0 : (e == 0) = false := by simpa using he
      have bee := bne_i e
      obtain ⟨t1, t2, t3, t4, t5⟩ := tells d' img br ⟨hfw.g, hfw.w, Nat.le_trans hfw.p (by omega)⟩ him
      have br1 := bne_i (roomN n)
      have bi := bne_s img
      have bd := bne_s (layP d'.s d'.p).flatten
      simp only [dN, dH, openB, ropB, RD.T, rdk, List.cons_append, List.nil_append] at hOp hOr
      repeat refine St2 (And.intro hlt <| And.intro hlt2 <| And.intro h30 <| And.intro ml <| And.intro hw2 <| And.intro g <| And.intro sm <| And.intro k1b <| And.intro hC <| And.intro hCr <| And.intro hOp <| And.intro hOr <| And.intro he0 <| And.intro bee <| And.intro t1 <| And.intro t2 <| And.intro t3 <| And.intro t4 <| And.intro t5 <| And.intro br1 <| And.intro bi <| bd) ct7 ?_
      exact ⟨⟨⟨i + 1, d', br, img⟩, by show i + 1 ≤ l.length; omega, by show i + 1 ≤ 30; omega, hf', hi'⟩, (Wt trivial [1, 6, 8, 10, 12, 14] [0, 1, 2, 9, 4, 5, 6]), by simp only; omega⟩
  have k2b : (k == 2) = false := by simpa using k2
  by_cases k3 : k = 3
  · subst k3
    have hD := hf
    have hOp := open_c d hD.g (Nat.le_trans hD.p (by omega)) (by have := hD.w; omega)
    have hOr := ropen_c (d := d) hD.g (Nat.le_trans hD.p (by omega)) (by have := hD.w; omega)
    rcases open_cases hD (by omega) with ⟨b', d', ho, _, hbl, hfw⟩ | ⟨d', e, ho, he, hfw⟩
    · rw [ho] at hOp hOr
      rw [hsn] at hOp hOr hbl
      have hf' : d'.few w (200 * (i + 1)) := ⟨hfw.g, hfw.w, Nat.le_trans hfw.p (by omega)⟩
      have hi' : b'.length ≤ 5000 := by omega
      clear ho
      obtain ⟨t1, t2, t3, t4, t5⟩ := tells d' b' false ⟨hfw.g, hfw.w, Nat.le_trans hfw.p (by omega)⟩ hi'
      have br1 := bne_i (roomN n)
      have bi := bne_s b'
      have bd := bne_s (layP d'.s d'.p).flatten
      simp only [dN, dH, openB, ropB, rsT, RD.T, rdk, stB, List.cons_append, List.nil_append] at hOp hOr
      repeat refine St2 (And.intro hlt <| And.intro hlt2 <| And.intro h30 <| And.intro ml <| And.intro hw2 <| And.intro g <| And.intro sm <| And.intro k1b <| And.intro k2b <| And.intro hOp <| And.intro hOr <| And.intro t1 <| And.intro t2 <| And.intro t3 <| And.intro t4 <| And.intro t5 <| And.intro br1 <| And.intro bi <| bd) ct7 ?_
      exact ⟨⟨⟨i + 1, d', false, b'⟩, by show i + 1 ≤ l.length; omega, by show i + 1 ≤ 30; omega, hf', hi'⟩, (Wt trivial [1, 6, 8, 10, 12, 14] [0, 1, 2, 8, 9, 5, 6]), by simp only; omega⟩
    · rw [ho] at hOp hOr
      have hf' : d'.few w (200 * (i + 1)) := ⟨hfw.g, hfw.w, Nat.le_trans hfw.p (by omega)⟩
      have hi' := him
      clear ho
      have he0 : (e == 0) = false := by simpa using he
      have bee := bne_i e
      obtain ⟨t1, t2, t3, t4, t5⟩ := tells d' img br ⟨hfw.g, hfw.w, Nat.le_trans hfw.p (by omega)⟩ him
      have br1 := bne_i (roomN n)
      have bi := bne_s img
      have bd := bne_s (layP d'.s d'.p).flatten
      simp only [dN, dH, openB, ropB, RD.T, rdk, List.cons_append, List.nil_append] at hOp hOr
      repeat refine St2 (And.intro hlt <| And.intro hlt2 <| And.intro h30 <| And.intro ml <| And.intro hw2 <| And.intro g <| And.intro sm <| And.intro k1b <| And.intro k2b <| And.intro hOp <| And.intro hOr <| And.intro he0 <| And.intro bee <| And.intro t1 <| And.intro t2 <| And.intro t3 <| And.intro t4 <| And.intro t5 <| And.intro br1 <| And.intro bi <| bd) ct7 ?_
      exact ⟨⟨⟨i + 1, d', br, img⟩, by show i + 1 ≤ l.length; omega, by show i + 1 ≤ 30; omega, hf', hi'⟩, (Wt trivial [1, 6, 8, 10, 12, 14] [0, 1, 2, 8, 4, 5, 6]), by simp only; omega⟩
  have k3b : (k == 3) = false := by simpa using k3
  by_cases k4 : k = 4
  · subst k4
    have hFu := fuse_c d na
    have hFr := rfuse_c hf.g na
    have hff := fuse_few hf na q2
    generalize fuR d na = d' at *
    have hf' : d'.few w (200 * (i + 1)) := ⟨hff.g, hff.w, Nat.le_trans hff.p (by omega)⟩
    have hi' := him
    obtain ⟨t1, t2, t3, t4, t5⟩ := tells d' img br ⟨hff.g, hff.w, Nat.le_trans hff.p (by omega)⟩ him
    have br1 := bne_i (roomN n)
    have bi := bne_s img
    have bd := bne_s (layP d'.s d'.p).flatten
    simp only [dH] at hFu
    repeat refine St2 (And.intro hlt <| And.intro hlt2 <| And.intro h30 <| And.intro ml <| And.intro hw2 <| And.intro g <| And.intro sm <| And.intro k1b <| And.intro k2b <| And.intro k3b <| And.intro hFu <| And.intro hFr <| And.intro t1 <| And.intro t2 <| And.intro t3 <| And.intro t4 <| And.intro t5 <| And.intro br1 <| And.intro bi <| bd) ct7 ?_
    exact ⟨⟨⟨i + 1, d', br, img⟩, by show i + 1 ≤ l.length; omega, by show i + 1 ≤ 30; omega, hf', hi'⟩, (Wt trivial [1, 6, 8, 10, 12, 14] [0, 1, 2, 3, 4, 5, 6]), by simp only; omega⟩
  have k4b : (k == 4) = false := by simpa using k4
  have hf' : d.few w (200 * (i + 1)) := ⟨hf.g, hf.w, Nat.le_trans hf.p (by omega)⟩
  have hi' := him
  obtain ⟨t1, t2, t3, t4, t5⟩ := tells d img br ⟨hf.g, hf.w, Nat.le_trans hf.p (by omega)⟩ him
  have br1 := bne_i (roomN n)
  have bi := bne_s img
  have bd := bne_s (layP d.s d.p).flatten
  repeat refine St2 (And.intro hlt <| And.intro hlt2 <| And.intro h30 <| And.intro ml <| And.intro hw2 <| And.intro g <| And.intro sm <| And.intro k1b <| And.intro k2b <| And.intro k3b <| And.intro k4b <| And.intro t1 <| And.intro t2 <| And.intro t3 <| And.intro t4 <| And.intro t5 <| And.intro br1 <| And.intro bi <| bd) ct7 ?_
  exact ⟨⟨⟨i + 1, d, br, img⟩, by show i + 1 ≤ l.length; omega, by show i + 1 ≤ 30; omega, hf', hi'⟩, (Wt trivial [1, 6, 8, 10, 12, 14] [0, 1, 2, 3, 4, 5, 6]), by simp only; omega⟩

end Go.Fw

end
