/- The abstract machine, and the contracts of the code: part 53. -/
import Derived.Test.YthhpapbokodpdaaP52

section
/- Chapter 25: ViewOrder walked. -/
namespace Go.Fw
open Go Go.Proofs
set_option linter.unusedVariables false
set_option linter.unusedSimpArgs false

noncomputable def F3 : Fun
  | [x, y] => match inv coinsT x, inv rfT y with
    | some l, some r => some ([], .t (.bool true))
    | _, _ => none
  | _ => none

theorem ct3 : CT [(7, ⟨[false], treeG F7⟩), (8, ⟨[], treeG F8⟩), (9, ⟨[false], treeG F9⟩), (10, ⟨[true], G10⟩), (11, ⟨[true, false], G11⟩), (12, ⟨[false, false], treeG F12⟩), (13, ⟨[false, false], treeG F13⟩), (14, ⟨[true, false], G14⟩), (15, ⟨[true], G15⟩)] [0, 1, 3, 4, 5, 6, 7, 8, 9, 10, 12, 14, 17, 29, 40, 82] [(11, [⟨0, [10], [], []⟩, ⟨0, [53], [], []⟩, ⟨0, [54], [], []⟩, ⟨1, [9], [], []⟩, ⟨0, [7], [], []⟩, ⟨0, [8], [], []⟩, ⟨1, [57, 58], [], []⟩, ⟨1, [59], [6], []⟩, ⟨1, [56, 60], [3, 6, 7], []⟩, ⟨0, [61], [3, 6, 7, 8], []⟩, ⟨0, [55, 62], [3, 6, 7, 8], []⟩, ⟨0, [63], [3, 6, 7, 8], []⟩, ⟨0, [8], [3, 6, 7, 8], []⟩, ⟨0, [65], [3, 6, 7, 8], []⟩, ⟨0, [66], [3, 6, 7, 8], []⟩, ⟨0, [7], [3, 6, 7, 8], []⟩, ⟨0, [8], [3, 6, 7, 8], []⟩, ⟨0, [69], [3, 6, 7, 8], []⟩, ⟨1, [68, 70], [3, 6, 7, 8], []⟩, ⟨0, [71], [3, 6, 7, 8, 18], []⟩, ⟨1, [72], [3, 6, 7, 8, 18], []⟩, ⟨0, [7], [3, 6, 7, 8], []⟩, ⟨0, [8], [3, 6, 7, 8], []⟩, ⟨1, [74, 75], [3, 6, 7, 8], []⟩, ⟨0, [76], [3, 6, 7, 8, 23], []⟩, ⟨1, [77], [3, 6, 7, 8, 23], []⟩, ⟨1, [73, 78], [3, 6, 7, 8, 18, 20, 23, 25], []⟩, ⟨0, [79], [3, 6, 7, 8, 18, 20, 23, 25, 26], []⟩, ⟨0, [67, 80], [3, 6, 7, 8, 18, 20, 23, 25, 26], []⟩, ⟨0, [64, 81], [3, 6, 7, 8, 18, 20, 23, 25, 26], []⟩])] := ⟨(.cons c7.g (.cons c8.g (.cons c9.g (.cons g10 (.cons g11 (.cons c12.g (.cons c13.g (.cons g14 (.cons g15 (.nil _))))))))))⟩

set_option maxRecDepth 8000 in
set_option maxHeartbeats 4000000 in
theorem c3 : ACon Try.prog 3 F3 := by
  refine aconc E_ok (rs := [.tmp 4 4]) Try.func3 rfl Try.ntmps3 (by kernel_rfl) rfl (by decide) F3 (np := 2) ?_ ?_
  · intro ts h; unfold F3; split <;> first | rfl | (simp at h; done)
  intro ts H r hF hwf
  unfold F3 at hF
  split at hF <;> try (cases hF; done)
  split at hF <;> try (cases hF; done)
  rename_i l r hl hr
  cases hF
  obtain rfl := inv_inv hl
  obtain rfl := inv_inv hr
  have h0 := coins_cc l
  simp only [coinsT, rfT]
  cases hok : okCs l with
  | false =>
    rw [hok] at h0
    repeat refine St (And.intro h0 <| @F8.eq_def) ct3 ?_
    exact AWP.ret (Fin trivial [] [])
  | true =>
  rw [hok] at h0
  obtain ⟨hlen, hlow⟩ := okCs_ok hok
  have hld := load_c l (by omega) hlow
  have herr := addsV_err l []
  obtain ⟨ao1, ao2⟩ := addsV_ok l [] rfl hlow
  have asr := addsV_srt l [] Srt.nil
  generalize addsV [] l = A at *
  obtain ⟨L, e⟩ := A
  dsimp only at herr ao1 ao2 asr
  simp only [List.length_nil, Nat.zero_add] at herr ao2
  have hml : (l.map coinT).length = l.length := List.length_map ..
  have hmL : (L.map coinT).length = L.length := List.length_map ..
  by_cases he : e = 0
  rotate_left
  · have e32 : e = 32 := herr.resolve_left (fun h => he h.1)
    subst e32
    rw [show loadR (L, 32) = ([], .tup [.t .nilp, .t (.int .i64 32)]) from if_neg he] at hld
    repeat refine St (And.intro h0 <| And.intro hld <| @F8.eq_def) ct3 ?_
    exact AWP.ret (Fin trivial [] [])
  subst he
  have hLl : L.length = l.length := (herr.resolve_right (by decide)).2
  rw [show loadR (L, 0) = (vwH L, .tup [.ptr 0 0 [], .t (.int .i64 0)]) from if_pos rfl] at hld
  have hLi := list_c L (by omega) ao1
  simp only [vwH, List.cons_append, List.nil_append] at hld hLi
  repeat refine St (And.intro h0 <| And.intro hld <| hLi) ct3 ?_
  refine AWP.loop (G := { i : Nat // i ≤ L.length }) (fun i => ⟨[(0, .t (.sq 37 (l.map coinT))), (3, .ptr 0 0 []), (5, .ptr 1 0 []), (7, .own 3), (8, .t (.int .i64 (i.1 : Int)))], [.bx (.t (.st [.ba 32 r.h.1, .int .u32 (r.i.toNat : Int)])), .bx (.st [.own 2]), .sq 37 (L.map coinT), .sq 37 (L.map coinT)]⟩) (fun i => L.length - i.1) ⟨0, Nat.zero_le _⟩ (Wt trivial [0, 3, 5, 7, 8] [0, 1, 2, 3]) ?_
  rintro ⟨i, hi⟩
  dsimp only
  by_cases hlt : i < L.length
  · have hlt2 : (i : Int) < (L.length : Int) := by omega
    have hw1 : IntKind.i64.wrap ((i : Int) + 1) = ((i + 1 : Nat) : Int) := by rw [wrap_i64 (by omega) (by omega)]; omega
    have hg := coin_getD L i hlt
    have hgt := get_c L (L.getD i dCoin).r (by omega) ao1
    have hgc : getC L (L.getD i dCoin).r = L.getD i dCoin := by
      unfold getC
      rw [plB_own asr hlt, if_pos rfl, plN_own asr hlt]
    rw [hgc, plB_own asr hlt] at hgt
    have hsm := same_cc (L.getD i dCoin) (L.getD i dCoin)
    rw [sameC_self] at hsm
    simp only [vwH] at hgt
    by_cases hz : i = 0
    · subst hz
      rw [coinT_st] at hg hgt hsm
      generalize L.getD 0 dCoin = c at *
      repeat refine St (And.intro hlt <| And.intro hlt2 <| And.intro hmL <| And.intro hw1 <| And.intro hg <| And.intro hgt <| hsm) ct3 ?_
      exact ⟨⟨0 + 1, by omega⟩, (Wt trivial [0, 3, 5, 7, 8] [0, 1, 2, 3]), by simp only; omega⟩
    · have hp : i - 1 < L.length := by omega
      have hp2 : ((i - 1 : Nat) : Int) < (L.length : Int) := by omega
      have hw2 : IntKind.i64.wrap ((i : Int) - 1) = ((i - 1 : Nat) : Int) := by rw [wrap_i64 (by omega) (by omega)]; omega
      have hg2 := coin_getD L (i - 1) hp
      have hls := less_cc (L.getD (i - 1) dCoin).r (L.getD i dCoin).r
      have hlt3 : cmpR (L.getD (i - 1) dCoin).r (L.getD i dCoin).r < 0 := asr.at (by omega) hlt
      rw [decide_eq_true hlt3] at hls
      have hpos : (0 : Int) < (i : Int) := by omega
      clear hlt3 hgc
      rw [coinT_st] at hg hgt hsm hg2
      generalize L.getD i dCoin = c at *
      generalize L.getD (i - 1) dCoin = d at *
      repeat refine St (And.intro hlt <| And.intro hlt2 <| And.intro hmL <| And.intro hw1 <| And.intro hw2 <| And.intro hg <| And.intro hg2 <| And.intro hp <| And.intro hp2 <| And.intro hgt <| And.intro hsm <| And.intro hls <| hpos) ct3 ?_
      exact ⟨⟨i + 1, by omega⟩, (Wt trivial [0, 3, 5, 7, 8] [0, 1, 2, 3]), by simp only; omega⟩
  obtain rfl : i = L.length := by omega
  have hlt2 : ¬ (L.length : Int) < (L.length : Int) := by omega
  have hgt := get_c L r (by omega) ao1
  have hsp := spend_vc L r (by omega) ao1
  simp only [vwH] at hgt
  have hlen1 : ∀ X : List TCoin, G15 [.bx (.st [.own 1]), .sq 37 (X.map coinT)] [.ptr 0 0 []] = some ([.bx (.st [.own 1]), .sq 37 (X.map coinT)], .t (.int .i64 (X.length : Int))) := by
    intro X
    show G15 (vwH X) _ = _
    simp only [G15, inv_of vwH_inj]
    rfl
  have heq : ((L.length : Int) == (l.length : Int)) = true := by rw [beq_iff_eq]; omega
  unfold spdV at hsp
  cases hb : plB L r with
  | true =>
    rw [hb, if_pos rfl] at hsp
    rw [hb] at hgt
    have hlt := plB_lt hb
    have hdl : (delC L (plN L r) (plN L r + 1)).length = L.length - 1 := by
      unfold delC; rw [List.length_append, List.length_take, List.length_drop]; omega
    have hnn := hlen1 (delC L (plN L r) (plN L r + 1))
    rw [hdl] at hnn
    have hw2 : IntKind.i64.wrap ((L.length : Int) - 1) = ((L.length - 1 : Nat) : Int) := by rw [wrap_i64 (by omega) (by omega)]; omega
    have heq2 : (((L.length - 1 : Nat) : Int) == ((L.length - 1 : Nat) : Int)) = true := beq_self_eq_true _
    clear hlen1
    simp only [vwN] at hsp
    rw [coinT_st] at hgt hsp
    generalize getC L r = c at *
    generalize L.getD (plN L r) dCoin = d at *
    generalize hY : delC L (plN L r) (plN L r + 1) = Y at *
    repeat refine St (And.intro hlt2 <| And.intro hmL <| And.intro hml <| And.intro hgt <| And.intro hsp <| And.intro hnn <| And.intro heq <| And.intro hw2 <| And.intro heq2 <| @F8.eq_def) ct3 ?_
    exact AWP.ret (Fin trivial [] [])
  | false =>
    rw [hb, if_neg (by simp)] at hsp
    rw [hb] at hgt
    have hnn := hlen1 L
    have heq2 : ((L.length : Int) == (L.length : Int)) = true := beq_self_eq_true _
    have hw2 : IntKind.i64.wrap ((L.length : Int) - 1) = (L.length : Int) - 1 := by rw [wrap_i64 (by omega) (by omega)]
    clear hlen1
    simp only [vwN] at hsp
    rw [coinT_st] at hgt hsp
    generalize getC L r = c at *
    repeat refine St (And.intro hlt2 <| And.intro hmL <| And.intro hml <| And.intro hgt <| And.intro hsp <| And.intro hnn <| And.intro heq <| And.intro heq2 <| And.intro hw2 <| @F8.eq_def) ct3 ?_
    exact AWP.ret (Fin trivial [] [])
theorem vorder_c (l : List TCoin) (r : TRef) : F3 [coinsT l, rfT r] = some ([], .t (.bool true)) := by
  simp only [F3, inv_of coinsT_inj, inv_of rfT_inj]

end Go.Fw

end
