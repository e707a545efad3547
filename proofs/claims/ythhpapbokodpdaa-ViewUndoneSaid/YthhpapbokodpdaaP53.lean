/- The abstract machine, and the contracts of the code: part 53. -/
import Derived.Test.YthhpapbokodpdaaP52

section
/- What was applied is reverted: all is as it was. Plain laws. -/
namespace Go.Fw
open Go
set_option linter.unusedVariables false
set_option linter.unusedSimpArgs false

theorem addsV_app : ∀ (a b l : List TCoin), addsV l (a ++ b) = if (addsV l a).2 ≠ 0 then addsV l a else addsV (addsV l a).1 b
  | [], b, l => by rw [List.nil_append]; unfold addsV; simp [addsV]
  | c :: a, b, l => by
    rw [List.cons_append]
    have e1 : addsV l (c :: (a ++ b)) = if (addV l c).2 ≠ 0 then ((addV l c).1, (addV l c).2) else addsV (addV l c).1 (a ++ b) := by rw [addsV]
    have e2 : addsV l (c :: a) = if (addV l c).2 ≠ 0 then ((addV l c).1, (addV l c).2) else addsV (addV l c).1 a := by rw [addsV]
    rw [e1, e2]
    by_cases h : (addV l c).2 = 0
    · have hn : ¬ (addV l c).2 ≠ 0 := fun hh => hh h
      simp only [if_neg hn]
      exact addsV_app a b _
    · have hn : (addV l c).2 ≠ 0 := h
      simp only [if_pos hn]
theorem addsV_snoc {l l1 : List TCoin} {a : List TCoin} (h : addsV l a = (l1, 0)) (c : TCoin) : addsV l (a ++ [c]) = addV l1 c := by
  rw [addsV_app, h, if_neg (by simp)]
  rw [addsV]
  by_cases h0 : (addV l1 c).2 = 0
  · rw [if_neg (fun hh => hh h0), addsV, ← h0]
  · rw [if_pos h0]

theorem take_undo : ∀ (rs : List TRef) (l l1 acc out : List TCoin), Srt l → takeV l rs acc = (l1, out, 0) → ∃ sp, out = acc ++ sp ∧ sp.map (·.r) = rs ∧ addsV l1 sp.reverse = (l, 0) ∧ Srt l1
  | [], l, l1, acc, out, hs, h => by
    unfold takeV at h
    cases h
    exact ⟨[], by simp, rfl, rfl, hs⟩
  | r :: rs, l, l1, acc, out, hs, h => by
    unfold takeV at h
    by_cases h0 : (spdV l r).2.2 = 0
    · rw [if_neg (fun hh => hh h0)] at h
      have hsp : spdV l r = ((spdV l r).1, (spdV l r).2.1, 0) := by rw [← h0]
      obtain ⟨g1, g2⟩ := spend_add hs hsp
      obtain ⟨sp, e1, e2, e3, e4⟩ := take_undo rs _ l1 _ out (spdV_srt hs r) h
      refine ⟨(spdV l r).2.1 :: sp, by rw [e1]; simp, by rw [List.map_cons, g1, e2], ?_, e4⟩
      rw [List.reverse_cons, addsV_snoc e3, g2]
    · rw [if_pos h0] at h
      simp only [Prod.mk.injEq] at h
      exact (h0 h.2.2).elim

theorem adds_unm (nm : H32) {l : List TCoin} (hs : Srt l) (cs : List TCoin) (hr : ∀ i, i < cs.length → (cs.getD i dCoin).r = ⟨nm, UInt32.ofNat i⟩) :
    ∀ n, n ≤ cs.length → ∀ l1, addsV l (cs.take n) = (l1, 0) → unmV nm n l1 = (l, 0) ∧ Srt l1
  | 0, _, l1, h => by
    rw [List.take_zero, addsV] at h
    cases h
    exact ⟨rfl, hs⟩
  | n + 1, hn, l1, h => by
    have e : cs.take (n + 1) = cs.take n ++ [cs.getD n dCoin] := by
      rw [List.take_add_one, List.getElem?_eq_getElem (by omega)]
      simp [List.getD_eq_getElem?_getD, List.getElem?_eq_getElem (show n < cs.length by omega)]
    rw [e, addsV_app] at h
    by_cases h0 : (addsV l (cs.take n)).2 = 0
    · rw [if_neg (fun hh => hh h0)] at h
      obtain ⟨g1, g2⟩ := adds_unm nm hs cs hr n (by omega) (addsV l (cs.take n)).1 (by rw [← h0])
      rw [addsV] at h
      by_cases h1 : (addV (addsV l (cs.take n)).1 (cs.getD n dCoin)).2 = 0
      · rw [if_neg (fun hh => hh h1), addsV] at h
        have ha : addV (addsV l (cs.take n)).1 (cs.getD n dCoin) = (l1, 0) := by
          simp only [Prod.mk.injEq, and_true] at h
          rw [← h, ← h1]
        have hsp := add_spend g2 ha
        rw [hr n (by omega)] at hsp
        refine ⟨?_, by have := addV_srt g2 (cs.getD n dCoin); rwa [ha] at this⟩
        unfold unmV
        rw [hsp, if_neg (by simp)]
        exact g1
      · rw [if_pos h1] at h
        simp only [Prod.mk.injEq] at h
        exact (h1 h.2).elim
    · rw [if_pos h0] at h
      exact (h0 (by rw [h])).elim

theorem madeC_ref (t : TTx) (nm : H32) (ht : UInt32) (first : Bool) (i : Nat) (h : i < (madeC t nm ht first).length) : ((madeC t nm ht first).getD i dCoin).r = ⟨nm, UInt32.ofNat i⟩ := by
  rw [madeC_len] at h
  simp [madeC, List.getD_eq_getElem?_getD, h]

theorem applyV_srt {l : List TCoin} (hs : Srt l) (t : TTx) (nm : H32) (ht : UInt32) (first : Bool) (h0 : (applyV l t nm ht first).2.2 = 0) : Srt (applyV l t nm ht first).1 := by
  unfold applyV at h0 ⊢
  by_cases hc : chkE t = 0
  · rw [if_neg (fun hh => hh hc)] at h0 ⊢
    by_cases h1 : (takeV l (insR t first) []).2.2 = 0
    · rw [if_neg (fun hh => hh h1)] at h0 ⊢
      obtain ⟨sp, e1, e2, e3, e4⟩ := take_undo (insR t first) l (takeV l (insR t first) []).1 [] (takeV l (insR t first) []).2.1 hs (by rw [← h1])
      split <;> exact addsV_srt _ _ e4
    · rw [if_pos h1] at h0; exact (h1 h0).elim
  · rw [if_pos hc] at h0; cases h0

/-- A transaction that was applied is reverted. -/
theorem apply_undo {l L sp : List TCoin} (hs : Srt l) {t : TTx} {nm : H32} {ht : UInt32} {first : Bool} (h : applyV l t nm ht first = (L, sp, 0)) : revV L t nm first sp = (l, 0) ∧ Srt L ∧ sp.length = (insR t first).length := by
  unfold applyV at h
  by_cases hc : chkE t = 0
  · rw [if_neg (fun hh => hh hc)] at h
    by_cases h1 : (takeV l (insR t first) []).2.2 = 0
    · rw [if_neg (fun hh => hh h1)] at h
      obtain ⟨sp', e1, e2, e3, e4⟩ := take_undo (insR t first) l (takeV l (insR t first) []).1 [] (takeV l (insR t first) []).2.1 hs (by rw [← h1])
      rw [List.nil_append] at e1
      by_cases h2 : (addsV (takeV l (insR t first) []).1 (madeC t nm ht first)).2 = 0
      · rw [if_neg (fun hh => hh h2)] at h
        simp only [Prod.mk.injEq, and_true] at h
        obtain ⟨rfl, rfl⟩ := h
        rw [e1]
        have hlen : sp'.length = (insR t first).length := by rw [← e2, List.length_map]
        obtain ⟨u1, u2⟩ := adds_unm nm e4 (madeC t nm ht first) (madeC_ref t nm ht first) t.outs.length (by rw [madeC_len]; exact Nat.le_refl _) (addsV (takeV l (insR t first) []).1 (madeC t nm ht first)).1
          (by rw [List.take_of_length_le (by rw [madeC_len]; exact Nat.le_refl _), ← h2])
        refine ⟨?_, u2, hlen⟩
        unfold revV
        rw [if_neg (fun hh => hh hc), if_neg (by rw [(eqRefs_iff _ _).2 e2]; simp), u1, if_neg (by simp)]
        exact e3
      · rw [if_pos h2] at h
        simp only [Prod.mk.injEq] at h
        exact (h2 h.2.2).elim
    · rw [if_pos h1] at h
      simp only [Prod.mk.injEq] at h
      exact (h1 h.2.2).elim
  · rw [if_pos hc] at h
    simp only [Prod.mk.injEq] at h
    exact absurd h.2.2 (by decide)

theorem blkV_snoc (nm : TTx → H32) (ht : UInt32) (t : TTx) : ∀ (ts : List TTx) (l acc : List TCoin) (first : Bool),
    blkV nm ht l (ts ++ [t]) first acc = if (blkV nm ht l ts first acc).2.2 ≠ 0 then blkV nm ht l ts first acc
      else if (applyV (blkV nm ht l ts first acc).1 t (nm t) ht (first && ts.isEmpty)).2.2 ≠ 0 then ((applyV (blkV nm ht l ts first acc).1 t (nm t) ht (first && ts.isEmpty)).1, (blkV nm ht l ts first acc).2.1, (applyV (blkV nm ht l ts first acc).1 t (nm t) ht (first && ts.isEmpty)).2.2)
      else ((applyV (blkV nm ht l ts first acc).1 t (nm t) ht (first && ts.isEmpty)).1, (blkV nm ht l ts first acc).2.1 ++ (applyV (blkV nm ht l ts first acc).1 t (nm t) ht (first && ts.isEmpty)).2.1, 0)
  | [], l, acc, first => by
    rw [List.nil_append]
    simp only [blkV, List.isEmpty_nil, Bool.and_true, ne_eq, not_true_eq_false, if_false]
  | u :: ts, l, acc, first => by
    rw [List.cons_append]
    have e1 : ∀ x : List TTx, blkV nm ht l (u :: x) first acc = if (applyV l u (nm u) ht first).2.2 ≠ 0 then ((applyV l u (nm u) ht first).1, acc, (applyV l u (nm u) ht first).2.2) else blkV nm ht (applyV l u (nm u) ht first).1 x false (acc ++ (applyV l u (nm u) ht first).2.1) := fun x => by rw [blkV]
    rw [e1, e1]
    by_cases h : (applyV l u (nm u) ht first).2.2 = 0
    · have hn : ¬ (applyV l u (nm u) ht first).2.2 ≠ 0 := fun hh => hh h
      simp only [if_neg hn]
      rw [blkV_snoc nm ht t ts]
      simp
    · have hn : (applyV l u (nm u) ht first).2.2 ≠ 0 := h
      simp only [if_pos hn]

/-- A block that was applied is undone. -/
theorem blk_undo (nm : TTx → H32) (ht : UInt32) (ts : List TTx) {l : List TCoin} (hs : Srt l) : ∀ n, n ≤ ts.length → ∀ L out, blkV nm ht l (ts.take n) true [] = (L, out, 0) →
    Srt L ∧ out.length = cumN ts n ∧ ∀ sp : List TCoin, sp.take out.length = out → undV nm ts sp n L = (l, 0)
  | 0, _, L, out, h => by
    rw [List.take_zero, blkV] at h
    cases h
    exact ⟨hs, rfl, fun sp _ => rfl⟩
  | n + 1, hn, L, out, h => by
    have e : ts.take (n + 1) = ts.take n ++ [ts.getD n dTx] := by
      rw [List.take_add_one, List.getElem?_eq_getElem (by omega)]
      simp [List.getD_eq_getElem?_getD, List.getElem?_eq_getElem (show n < ts.length by omega)]
    have hemp : (true && (ts.take n).isEmpty) = decide (n = 0) := by
      rw [Bool.true_and, Bool.eq_iff_iff, decide_eq_true_eq, List.isEmpty_iff, List.take_eq_nil_iff]
      constructor
      · rintro (h1 | h1)
        · exact h1
        · rw [h1] at hn; simp at hn
      · exact .inl
    rw [e, blkV_snoc, hemp] at h
    by_cases h0 : (blkV nm ht l (ts.take n) true []).2.2 = 0
    · rw [if_neg (fun hh => hh h0)] at h
      obtain ⟨g1, g2, g3⟩ := blk_undo nm ht ts hs n (by omega) (blkV nm ht l (ts.take n) true []).1 (blkV nm ht l (ts.take n) true []).2.1 (by rw [← h0])
      generalize (blkV nm ht l (ts.take n) true []).1 = Ln at *
      generalize (blkV nm ht l (ts.take n) true []).2.1 = on at *
      by_cases h1 : (applyV Ln (ts.getD n dTx) (nm (ts.getD n dTx)) ht (decide (n = 0))).2.2 = 0
      · rw [if_neg (fun hh => hh h1)] at h
        simp only [Prod.mk.injEq, and_true] at h
        obtain ⟨rfl, rfl⟩ := h
        obtain ⟨a1, a2, a3⟩ := apply_undo g1 (show applyV Ln (ts.getD n dTx) (nm (ts.getD n dTx)) ht (decide (n = 0)) = (_, _, 0) by rw [← h1])
        generalize (applyV Ln (ts.getD n dTx) (nm (ts.getD n dTx)) ht (decide (n = 0))).1 = L' at *
        generalize (applyV Ln (ts.getD n dTx) (nm (ts.getD n dTx)) ht (decide (n = 0))).2.1 = a at *
        have hcm : cumN ts (n + 1) = cumN ts n + (insR (ts.getD n dTx) (decide (n = 0))).length := rfl
        have hlen : (on ++ a).length = cumN ts (n + 1) := by rw [List.length_append, g2, a3, hcm]
        refine ⟨a2, hlen, fun sp hsp => ?_⟩
        rw [hlen] at hsp
        have hc : (sp.take (cumN ts (n + 1))).drop (cumN ts n) = a := by
          rw [hsp, ← g2, List.drop_left]
        unfold undV
        rw [hc, a1, if_neg (by simp)]
        refine g3 sp ?_
        have : (sp.take (cumN ts (n + 1))).take on.length = on := by rw [hsp, List.take_left]
        rw [List.take_take, Nat.min_eq_left (by omega)] at this
        exact this
      · rw [if_pos h1] at h
        simp only [Prod.mk.injEq] at h
        exact (h1 h.2.2).elim
    · rw [if_pos h0] at h
      exact (h0 (by rw [h])).elim

end Go.Fw

end

section
/- view's answer: lists of coins alike. -/
namespace Go.Fw
open Go Go.Proofs
set_option linter.unusedVariables false
set_option linter.unusedSimpArgs false

/-- Are lists alike? -/
noncomputable def samesB : List TCoin → List TCoin → Bool
  | [], [] => true
  | a :: x, b :: y => sameC a b && samesB x y
  | _, _ => false
theorem samesB_iff : ∀ a b : List TCoin, samesB a b = true ↔ a = b
  | [], [] => by simp [samesB]
  | [], _ :: _ => by simp [samesB]
  | _ :: _, [] => by simp [samesB]
  | a :: x, b :: y => by simp only [samesB, Bool.and_eq_true, sameC_iff, samesB_iff x y, List.cons.injEq]
theorem samesB_self (a : List TCoin) : samesB a a = true := (samesB_iff a a).2 rfl
theorem samesB_len {a b : List TCoin} (h : a.length ≠ b.length) : samesB a b = false := by
  cases hb : samesB a b with
  | false => rfl
  | true => rw [(samesB_iff a b).1 hb] at h; exact (h rfl).elim

noncomputable def F18 : Fun
  | [x, y] => match inv coinsT x, inv coinsT y with
    | some a, some b => @ite _ ((a.length ≤ 1000000 ∧ b.length ≤ 1000000)) (Classical.propDecidable _) ((some ([], .t (.bool (samesB a b))))) none
    | _, _ => none
  | _ => none

theorem ct18 : CT [(12, ⟨[false, false], treeG F12⟩)] [0, 1, 4, 5, 10, 14, 26] [(6, [⟨0, [0], [], []⟩, ⟨0, [5], [], []⟩, ⟨1, [17, 18], [], []⟩, ⟨1, [19], [2], []⟩, ⟨0, [1], [], []⟩, ⟨0, [5], [], []⟩, ⟨1, [21, 22], [], []⟩, ⟨1, [23], [6], []⟩, ⟨1, [20, 24], [2, 3, 6, 7], []⟩, ⟨0, [25], [2, 3, 6, 7, 8], []⟩])] := ⟨(.cons c12.g (.nil _))⟩

set_option maxHeartbeats 2000000 in
theorem c18 : ACon Try.prog 18 F18 := by
  refine aconc E_ok (rs := [.tmp 4 4]) Try.func18 rfl Try.ntmps18 (by kernel_rfl) rfl (by decide) F18 (np := 2) ?_ ?_
  · intro ts h; unfold F18; split <;> first | rfl | (simp at h; done)
  intro ts H r hF hwf
  unfold F18 at hF
  split at hF <;> try (cases hF; done)
  split at hF <;> try (cases hF; done)
  rename_i a b ha hb
  split at hF
  case isFalse => cases hF
  rename_i hcc
  obtain ⟨hl1, hl2⟩ := hcc
  cases hF
  obtain rfl := inv_inv ha
  obtain rfl := inv_inv hb
  have hma : (a.map coinT).length = a.length := List.length_map ..
  have hmb : (b.map coinT).length = b.length := List.length_map ..
  simp only [coinsT]
  by_cases hne : a.length = b.length
  rotate_left
  · have hq : ((a.length : Int) != (b.length : Int)) = true := by
      rw [bne_iff_ne]; omega
    rw [samesB_len hne]
    repeat refine St (And.intro hma <| And.intro hmb <| hq) ct18 ?_
    exact AWP.ret (Fin trivial [] [])
  have hq : ((a.length : Int) != (b.length : Int)) = false := by
    rw [bne_eq_false_iff_eq]; omega
  obtain ⟨R, hR⟩ : ∃ R, samesB a b = R := ⟨_, rfl⟩
  rw [hR]
  repeat refine St (And.intro hma <| And.intro hmb <| hq) ct18 ?_
  refine AWP.loop (G := { i : Nat // i ≤ a.length ∧ samesB (a.drop i) (b.drop i) = R }) (fun i => ⟨[(0, .t (.sq 37 (a.map coinT))), (1, .t (.sq 37 (b.map coinT))), (5, .t (.int .i64 (i.1 : Int)))], []⟩) (fun i => a.length - i.1) ⟨0, Nat.zero_le _, hR⟩ (Wt trivial [0, 1, 5] []) ?_
  rintro ⟨i, hi, hT⟩
  dsimp only
  by_cases hlt : i < a.length
  · have hlt2 : (i : Int) < (a.length : Int) := by omega
    have hlb : i < b.length := by omega
    have hlb2 : (i : Int) < (b.length : Int) := by omega
    have hw1 : IntKind.i64.wrap ((i : Int) + 1) = ((i + 1 : Nat) : Int) := by rw [wrap_i64 (by omega) (by omega)]; omega
    have hg := coin_getD a i hlt
    have hg2 := coin_getD b i hlb
    have hd1 : a.drop i = a.getD i dCoin :: a.drop (i + 1) := by
      rw [List.drop_eq_getElem_cons hlt]
      simp [List.getD_eq_getElem?_getD, hlt]
    have hd2 : b.drop i = b.getD i dCoin :: b.drop (i + 1) := by
      rw [List.drop_eq_getElem_cons hlb]
      simp [List.getD_eq_getElem?_getD, hlb]
    rw [hd1, hd2, samesB] at hT
    have h1 := same_cc (a.getD i dCoin) (b.getD i dCoin)
    rw [coinT_st, coinT_st] at h1
    rw [coinT_st] at hg hg2
    generalize a.getD i dCoin = c at *
    generalize b.getD i dCoin = d at *
    cases hs : sameC c d with
    | false =>
      rw [hs] at h1
      rw [hs, Bool.false_and] at hT
      subst hT
      repeat refine St (And.intro hlt <| And.intro hlt2 <| And.intro hlb <| And.intro hlb2 <| And.intro hma <| And.intro hmb <| And.intro hw1 <| And.intro hg <| And.intro hg2 <| h1) ct18 ?_
      exact AWP.ret (Fin trivial [] [])
    | true =>
      rw [hs] at h1
      rw [hs, Bool.true_and] at hT
      repeat refine St (And.intro hlt <| And.intro hlt2 <| And.intro hlb <| And.intro hlb2 <| And.intro hma <| And.intro hmb <| And.intro hw1 <| And.intro hg <| And.intro hg2 <| h1) ct18 ?_
      exact ⟨⟨i + 1, by omega, hT⟩, (Wt trivial [0, 1, 5] []), by simp only; omega⟩
  obtain rfl : i = a.length := by omega
  have hlt2 : ¬ (a.length : Int) < (a.length : Int) := by omega
  rw [List.drop_length, List.drop_of_length_le (show b.length ≤ a.length by omega), samesB] at hT
  subst hT
  repeat refine St (And.intro hlt2 <| hma) ct18 ?_
  exact AWP.ret (Fin trivial [] [])
theorem sames_cc (a b : List TCoin) (h : a.length ≤ 1000000) (h2 : b.length ≤ 1000000) : F18 [.sq 37 (a.map coinT), .sq 37 (b.map coinT)] = some ([], .t (.bool (samesB a b))) := by
  show F18 [coinsT a, coinsT b] = _
  simp only [F18, inv_of coinsT_inj]
  exact if_pos ⟨h, h2⟩

end Go.Fw

end

section
/- Chapter 25: ViewUndone walked. -/
namespace Go.Fw
open Go Go.Proofs
set_option linter.unusedVariables false
set_option linter.unusedSimpArgs false

theorem h32_shp {x : T} (h : (Sh.int .u32).has x) (hw : x.wf) : ∃ a : UInt32, x = h32T a := u32_shp h hw
theorem small_few {ts : List TTx} (h : smallBl ts = true) : ts.all fewIn = true := by
  obtain ⟨h1, h2⟩ := smallBl_ok h
  refine List.all_eq_true.2 fun t ht => ?_
  obtain ⟨b1, _⟩ := smallT_ok (List.all_eq_true.1 h2 t ht)
  exact decide_eq_true (by omega)
theorem blockV_no {l : List TCoin} {ts : List TTx} {ht : UInt32} (h : (bk1 ⟨l, ts, ht⟩).2.2 ≠ 0) : blockV l ts ht = (l, [], (bk1 ⟨l, ts, ht⟩).2.2) := by
  unfold blockV
  rw [if_neg h, if_neg h]
theorem blockV_yes {l L sp : List TCoin} {ts : List TTx} {ht : UInt32} (h : bk1 ⟨l, ts, ht⟩ = (L, sp, 0)) : blockV l ts ht = (L, sp, 0) := by
  unfold blockV
  rw [h]
  rfl
theorem block_undone {l L sp : List TCoin} {ts : List TTx} {ht : UInt32} (hs : Srt l) (h : bk1 ⟨l, ts, ht⟩ = (L, sp, 0)) : undoV L ts sp = (l, 0) ∧ Srt L := by
  have h' : blkV nmH ht l (ts.take ts.length) true [] = (L, sp, 0) := by rw [List.take_length]; exact h
  obtain ⟨g1, g2, g3⟩ := blk_undo nmH ht ts hs ts.length (Nat.le_refl _) L sp h'
  have h3 : ud1 ⟨L, sp, ts⟩ = (l, 0) := g3 sp List.take_length
  unfold undoV
  rw [if_pos g2.symm, h3]
  exact ⟨rfl, g1⟩

noncomputable def F4 : Fun
  | [x, y, z] => match inv coinsT x, inv txsT y, inv h32T z with
    | some l, some ts, some ht => some ([], .t (.bool true))
    | _, _, _ => none
  | _ => none

theorem ct4 : CT [(7, ⟨[false], treeG F7⟩), (8, ⟨[], treeG F8⟩), (9, ⟨[false], treeG F9⟩), (10, ⟨[true], G10⟩), (16, ⟨[false], treeG F16⟩), (17, ⟨[true, false, false], G17B⟩), (18, ⟨[false, false], treeG F18⟩), (19, ⟨[true, false, false], G19U⟩)] [0, 1, 2, 6, 7, 8, 9, 10, 11, 12, 13, 14, 15, 23, 35, 51, 78] [] := ⟨(.cons c7.g (.cons c8.g (.cons c9.g (.cons g10 (.cons c16.g (.cons g17B (.cons c18.g (.cons g19U (.nil _)))))))))⟩

set_option maxRecDepth 8000 in
set_option maxHeartbeats 8000000 in
theorem c4 : ACon Try.prog 4 F4 := by
  refine aconc E_ok (rs := [.tmp 6 4]) Try.func4 rfl Try.ntmps4 (by kernel_rfl) rfl (by decide) F4 (np := 3) ?_ ?_
  · intro ts h; unfold F4; split <;> first | rfl | (simp at h; done)
  intro ts H r hF hwf
  unfold F4 at hF
  split at hF <;> try (cases hF; done)
  split at hF <;> try (cases hF; done)
  rename_i l ts ht hl hts hht
  cases hF
  obtain rfl := inv_inv hl
  obtain rfl := inv_inv hts
  obtain rfl := inv_inv hht
  have h0 := coins_cc l
  have hsm := rsmallb_c ts
  simp only [coinsT, txsT, h32T]
  cases hok : okCs l with
  | false =>
    rw [hok] at h0
    repeat refine St (And.intro h0 <| @F8.eq_def) ct4 ?_
    exact AWP.ret (Fin trivial [] [])
  | true =>
  rw [hok] at h0
  cases hsk : smallBl ts with
  | false =>
    rw [hsk] at hsm
    repeat refine St (And.intro h0 <| And.intro hsm <| @F8.eq_def) ct4 ?_
    exact AWP.ret (Fin trivial [] [])
  | true =>
  rw [hsk] at hsm
  obtain ⟨hlen, hlow⟩ := okCs_ok hok
  obtain ⟨htl, _⟩ := smallBl_ok hsk
  have hfew := small_few hsk
  have hld := load_c l (by omega) hlow
  have herr := addsV_err l []
  obtain ⟨ao1, ao2⟩ := addsV_ok l [] rfl hlow
  have asr := addsV_srt l [] Srt.nil
  generalize addsV [] l = A at *
  obtain ⟨L, e⟩ := A
  dsimp only at herr ao1 ao2 asr
  simp only [List.length_nil, Nat.zero_add] at herr ao2
  by_cases he : e = 0
  rotate_left
  · have e32 : e = 32 := herr.resolve_left (fun h => he h.1)
    subst e32
    rw [show loadR (L, 32) = ([], .tup [.t .nilp, .t (.int .i64 32)]) from if_neg he] at hld
    repeat refine St (And.intro h0 <| And.intro hsm <| And.intro hld <| @F8.eq_def) ct4 ?_
    exact AWP.ret (Fin trivial [] [])
  subst he
  rw [show loadR (L, 0) = (vwH L, .tup [.ptr 0 0 [], .t (.int .i64 0)]) from if_pos rfl] at hld
  have hLi := list_c L (by omega) ao1
  have hbk := block_c L ts ht (by omega) ao1 (by omega)
  obtain ⟨k1, k2, k3, k4⟩ := blkV_ok nmH ht ts L [] true ao1 rfl
  have hsL := sames_cc L L (by omega) (by omega)
  rw [samesB_self] at hsL
  obtain ⟨B, hB⟩ : ∃ B, bk1 ⟨L, ts, ht⟩ = B := ⟨_, rfl⟩
  have hB' : blkV nmH ht L ts true [] = B := hB
  rw [hB'] at k1 k2 k3 k4
  obtain ⟨L1, sp, e⟩ := B
  dsimp only at k1 k2 k3 k4
  simp only [List.length_nil, Nat.zero_add] at k4
  simp only [vwH, List.cons_append, List.nil_append] at hld hLi
  by_cases he : e = 0
  rotate_left
  · rw [blockV_no (by rw [hB]; exact he), hB] at hbk
    have he2 : (e != 0) = true := by simpa using he
    simp only [vwN, List.map_nil] at hbk
    repeat refine St (And.intro h0 <| And.intro hsm <| And.intro hld <| And.intro hLi <| And.intro hbk <| And.intro he2 <| And.intro hsL <| @F8.eq_def) ct4 ?_
    exact AWP.ret (Fin trivial [] [])
  subst he
  obtain ⟨u1, u2⟩ := block_undone asr hB
  rw [blockV_yes hB] at hbk
  have hun := undo_c L1 ts sp ⟨by show L1.length ≤ 300000; omega, k1, by show sp.length ≤ 10000; omega, k3, by show ts.length ≤ 10000; omega, hfew⟩
  rw [u1] at hun
  have hL2 := list_c L1 (by omega) k1
  have hs1 := sames_cc L1 L1 (by omega) (by omega)
  have hss := sames_cc sp sp (by omega) (by omega)
  rw [samesB_self] at hs1 hss
  have hd0 : ((0 : Int) != 0) = false := rfl
  simp only [vwN, vwH, List.cons_append, List.nil_append] at hbk hun hL2
  clear hB hB' k1 k2 k3 k4 u1 u2
  repeat refine St (And.intro h0 <| And.intro hsm <| And.intro hld <| And.intro hLi <| And.intro hbk <| And.intro hd0 <| And.intro hun <| And.intro hL2 <| And.intro hs1 <| And.intro hss <| And.intro hsL <| @F8.eq_def) ct4 ?_
  exact AWP.ret (Fin trivial [] [])
theorem vundone_c (l : List TCoin) (ts : List TTx) (ht : UInt32) : F4 [coinsT l, txsT ts, h32T ht] = some ([], .t (.bool true)) := by
  simp only [F4, inv_of coinsT_inj, inv_of txsT_inj, inv_of h32T_inj]

end Go.Fw

end
