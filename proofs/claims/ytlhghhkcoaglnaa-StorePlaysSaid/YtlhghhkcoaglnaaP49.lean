/- The abstract machine, and the contracts of the code: part 49. -/
import Derived.Test.YtlhghhkcoaglnaaP48

section
/- The document's disk (a). -/
namespace Go.Fw
open Go Go.Proofs
set_option linter.unusedVariables false
set_option linter.unusedSimpArgs false

def F19 : Fun
  | [.int .i64 k] => if k < 1 ∨ 8192 < k then some ([], .tup [.t (rdk [] [] 0 false), .t (.int .i64 1)])
    else some ([], .tup [.t (rdk (rep k.toNat (zby 128)) [] (-1) false), .t (.int .i64 0)])
  | _ => none

theorem ct19 : CT [] [0, 2, 3, 4, 5, 6, 12, 19] [] := ⟨GClOk.nil _⟩

theorem c19 : ACon Try.prog 19 F19 := by
  refine aconc E_ok (rs := [.cell 2 49, .tmp 3 28]) Try.func19 rfl Try.ntmps19 (by kernel_rfl) rfl (by decide) F19 (np := 1) ?_ ?_
  · intro ts h; unfold F19; split <;> first | rfl | (simp at h; done)
  intro ts H r hF hwf
  unfold F19 at hF
  split at hF <;> try (cases hF; done)
  rename_i k
  by_cases h1 : k < 1
  · rw [if_pos (.inl h1)] at hF
    cases hF
    repeat refine St h1 ct19 ?_
    exact AWP.ret (Fin @rdk.eq_def [] [])
  by_cases h2 : 8192 < k
  · rw [if_pos (.inr h2)] at hF
    cases hF
    repeat refine St (And.intro h1 <| h2) ct19 ?_
    exact AWP.ret (Fin @rdk.eq_def [] [])
  rw [if_neg (by omega)] at hF
  cases hF
  obtain ⟨K, rfl⟩ : ∃ K : Nat, k = (K : Int) := ⟨k.toNat, by omega⟩
  iterate 9 (try refine St (And.intro h1 <| h2) ct19 ?_)
  show AWP _ _ _ _ _ ⟨[(0, .t (.int .i64 (K : Int))), (2, .ptr 0 0 []), (3, .t (.int .i64 0)), (4, .t (.str (zby 128))), (5, .any), (6, .any), (12, .t (.bool false)), (19, .any)], [.bx (.t (.st [.nil, .nil, .int .i64 0, .bool false])), .by (zby 128)]⟩
  repeat refine St trivial ct19 ?_
  refine AWP.loop (G := { x : Nat // x ≤ K }) (fun x => ⟨[(0, .t (.int .i64 (K : Int))), (2, .ptr 0 0 []), (3, .t (.int .i64 0)), (4, .t (.str (zby 128))), (5, .own 1), (6, .t (.int .i64 (x.1 : Int)))], [.bx (.t (.st [.nil, .nil, .int .i64 0, .bool false])), .sq 1 (rep x.1 (T.str (zby 128)))]⟩) (fun x => K - x.1) ⟨0, by omega⟩ (Wt trivial [0, 2, 3, 4, 5, 6] [0, 2]) ?_
  intro ⟨i, hi⟩
  replace hi : i ≤ K := hi
  by_cases hlt : (i : Int) < (K : Int)
  · have hk1 : IntKind.i64.wrap ((i : Int) + 1) = ((i + 1 : Nat) : Int) := by rw [wrap_i64 (by omega) (by omega)]; omega
    repeat refine St (And.intro hlt <| And.intro hk1 <| And.intro @T.size.eq_def <| And.intro @rep_len <| @rep_snoc) ct19 ?_
    exact ⟨⟨i + 1, by omega⟩, (Wt @rep_snoc [0, 2, 3, 4, 5, 6] [0, 3]), by simp only; omega⟩
  · obtain rfl : i = K := by omega
    repeat refine St hlt ct19 ?_
    exact AWP.ret (Fin (And.intro @rdk.eq_def <| @rep_map) [1] [])

def F56 : Fun
  | [.sq 1 ls, .sq 2 ws, .sq 1 ks, .bool wh] =>
    match asStrs ls with
    | some s => match asRps ws with
      | some p => match asInts ks with
        | some ks => if (fitP s.length p && full128 s && full128P p) = true ∧ s.length ≤ 1000000 ∧ p.length ≤ 1000000 then some ([], .t (.sq 1 ((laidN s p ks wh p.length).map T.str))) else none
        | none => none
      | none => none
    | none => none
  | _ => none

theorem ct56 : CT [] [0, 1, 2, 3, 8, 9, 10, 11, 18, 24, 33, 35] [(11, [⟨0, [9], [], []⟩, ⟨0, [1], [], []⟩, ⟨0, [10], [], []⟩, ⟨1, [37, 38], [], []⟩, ⟨0, [39], [3], []⟩, ⟨1, [40], [3], []⟩, ⟨0, [1], [], []⟩, ⟨0, [10], [], []⟩, ⟨1, [42, 43], [], []⟩, ⟨0, [44], [8], []⟩, ⟨1, [45], [8], []⟩, ⟨0, [11], [], []⟩, ⟨1, [46, 47], [8, 10], []⟩, ⟨0, [9], [], []⟩, ⟨0, [1], [], []⟩, ⟨0, [10], [], []⟩, ⟨1, [50, 51], [], []⟩, ⟨0, [52], [16], []⟩, ⟨1, [53], [16], []⟩, ⟨1, [49, 54], [16, 18], []⟩, ⟨1, [55], [16, 18, 19], []⟩, ⟨0, [11], [], []⟩, ⟨1, [56, 57], [16, 18, 19, 20], []⟩, ⟨0, [48, 58], [8, 10, 12, 16, 18, 19, 20, 22], []⟩, ⟨1, [36, 41], [3, 5, 8, 10, 12, 16, 18, 19, 20, 22], []⟩, ⟨2, [59, 60], [3, 5, 8, 10, 12, 16, 18, 19, 20, 22, 24], []⟩])] := ⟨GClOk.nil _⟩

set_option maxHeartbeats 2000000 in
theorem c56 : ACon Try.prog 56 F56 := by
  refine aconc E_ok (rs := [.tmp 8 46]) Try.func56 rfl Try.ntmps56 (by kernel_rfl) rfl (by decide) F56 (np := 4) ?_ ?_
  · intro ts h; unfold F56; split <;> first | rfl | (simp at h; done)
  intro ts H r hF hwf
  unfold F56 at hF
  split at hF <;> try (cases hF; done)
  rename_i ls ws ks wh
  split at hF
  case h_2 => cases hF
  rename_i s hs
  split at hF
  case h_2 => cases hF
  rename_i p hp
  split at hF
  case h_2 => cases hF
  rename_i kl hkl
  split at hF
  case isFalse => cases hF
  rename_i hc
  cases hF
  obtain rfl := asStrs_inv hs
  obtain rfl := asRps_inv hp
  obtain rfl := asInts_inv hkl
  obtain ⟨hc1, hc2, hc3⟩ := hc
  simp only [Bool.and_eq_true] at hc1
  obtain ⟨⟨hfit, hfs⟩, hfp⟩ := hc1
  repeat refine St trivial ct56 ?_
  refine AWP.loop (G := { x : Nat // x ≤ p.length }) (fun x => ⟨[(1, .t (.sq 2 (p.map rp1))), (2, .t (.sq 1 (kl.map (T.int .i64)))), (3, .t (.bool wh)), (9, .own 0), (10, .t (.int .i64 (x.1 : Int)))], [.sq 1 ((laidN s p kl wh x.1).map T.str)]⟩) (fun x => p.length - x.1) ⟨0, by omega⟩ (Wt (And.intro @laidN.eq_1 <| @laidN.eq_2) [1, 2, 3, 9, 10] [1]) ?_
  intro ⟨i, hi⟩
  replace hi : i ≤ p.length := hi
  dsimp only
  by_cases hlt : (i : Int) < (p.length : Int)
  case neg =>
    obtain rfl : i = p.length := by omega
    repeat refine St hlt ct56 ?_
    exact AWP.ret (Fin trivial [0] [])
  obtain ⟨w, hw⟩ : ∃ w, p[i]? = some w := ⟨_, List.getElem?_eq_getElem (by omega)⟩
  have hpl : i < p.length := by omega
  have hwd : p.getD i (0, []) = w := by simp [List.getD_eq_getElem?_getD, hw]
  have hwg : (List.map rp1 p).getD i default = .st [.int .i64 w.1, .str w.2] := by simp [List.getD_eq_getElem?_getD, hw, rp1]
  have h1 := fitP_get hfit hw
  have h2 := full128P_get hfp hw
  have h3 := laidN_full kl wh hfs hfit hfp i (by omega)
  have h4 := laidN_len s p kl wh i
  have hk1 : IntKind.i64.wrap ((i : Int) + 1) = ((i + 1 : Nat) : Int) := by rw [wrap_i64 (by omega) (by omega)]; omega
  have hnx : laidN s p kl wh (i + 1) = laid1 (laidN s p kl wh i) w (nAt kl wh i) := by simp only [laidN, hwd]
  generalize hX : laidN s p kl wh i = X at *
  repeat refine St hlt ct56 ?_
  refine AWP.cut2 (G := Unit) (fun _ => ⟨[(1, .t (.sq 2 (p.map rp1))), (2, .t (.sq 1 (kl.map (T.int .i64)))), (3, .t (.bool wh)), (9, .own 0), (10, .t (.int .i64 (i : Int))), (11, .t (.int .i64 (kl.getD i 0)))], [.sq 1 (X.map T.str)]⟩) ?_ ?_
  · by_cases hkl : (i : Int) < (kl.length : Int)
    · have hkl' : i < kl.length := by omega
      have hkg : (List.map (T.int .i64) kl).getD i default = .int .i64 (kl.getD i 0) := by simp [List.getD_eq_getElem?_getD, hkl']
      repeat refine St (And.intro hkl <| And.intro hkg <| hkl') ct56 ?_
      exact ⟨(), (Wt trivial [1, 2, 3, 9, 10, 11] [0])⟩
    · have hkg : kl.getD i 0 = 0 := by simp [List.getD_eq_getElem?_getD, List.getElem?_eq_none (show kl.length ≤ i by omega)]
      repeat refine St hkl ct56 ?_
      exact ⟨(), (Wt hkg [1, 2, 3, 9, 10, 11] [0])⟩
  intro _
  refine AWP.cut (G := Unit) (fun _ => ⟨[(1, .t (.sq 2 (p.map rp1))), (2, .t (.sq 1 (kl.map (T.int .i64)))), (3, .t (.bool wh)), (9, .own 0), (10, .t (.int .i64 (i : Int))), (11, .t (.int .i64 (nAt kl wh i)))], [.sq 1 (X.map T.str)]⟩) ?_ ?_
  · cases wh
    · by_cases h128 : 128 < kl.getD i 0
      · repeat refine St h128 ct56 ?_
        exact ⟨(), (Wt (And.intro @nAt.eq_def <| h128) [1, 2, 3, 9, 10, 11] [0])⟩
      · repeat refine St h128 ct56 ?_
        exact ⟨(), (Wt (And.intro @nAt.eq_def <| h128) [1, 2, 3, 9, 10, 11] [0])⟩
    · repeat refine St trivial ct56 ?_
      exact ⟨(), (Wt @nAt.eq_def [1, 2, 3, 9, 10, 11] [0])⟩
  intro _
  have hn128 := nAt_le kl wh i
  generalize nAt kl wh i = n at *
  by_cases hn : 0 < n
  · have hXl : w.1.toNat < X.length := by rw [h4]; omega
    have hXi : w.1 < (X.length : Int) := by rw [h4]; omega
    have hXg : (List.map T.str X).getD w.1.toNat default = .str (X.getD w.1.toNat []) := by simp [List.getD_eq_getElem?_getD, hXl]
    have hX128 := full128_get h3 hXl
    have hn0 : n.toNat ≤ 128 := by omega
    have h10 := h1.1
    repeat refine St hn ct56 ?_
    repeat refine St (And.intro hn <| And.intro hwg <| And.intro hXg <| And.intro hXl <| And.intro hXi <| And.intro h2 <| And.intro hX128 <| And.intro hn0 <| And.intro h10 <| hpl) ct56 ?_
    have hset : ∀ y, (List.map T.str X).set w.1.toNat (T.str y) = List.map T.str (X.set w.1.toNat y) := fun y => List.map_set.symm
    repeat refine St hk1 ct56 ?_
    exact ⟨⟨i + 1, by omega⟩, (Wt (And.intro hnx <| And.intro @laid1.eq_def <| And.intro hn <| hset) [1, 2, 3, 9, 10] [0]), by simp only; omega⟩
  · repeat refine St (And.intro hn <| hk1) ct56 ?_
    exact ⟨⟨i + 1, by omega⟩, (Wt (And.intro hnx <| And.intro @laid1.eq_def <| hn) [1, 2, 3, 9, 10] [0]), by simp only; omega⟩

end Go.Fw

end

section
/- The document's disk (b). -/
namespace Go.Fw
open Go Go.Proofs
set_option linter.unusedVariables false
set_option linter.unusedSimpArgs false

theorem laid_call {d : RD} (h : d.ok = true) (ks : List Int) (wh : Bool) : F56 [.sq 1 (d.s.map T.str), .sq 2 (d.p.map rp1), .sq 1 (ks.map (T.int .i64)), .bool wh] = some ([], .t (.sq 1 ((laidN d.s d.p ks wh d.p.length).map T.str))) := by
  obtain ⟨h1, h2, h3, h4, h5⟩ := RD.ok_iff.1 h
  simp only [F56, asStrs_map, asRps_map, asInts_map]
  rw [if_pos ⟨by rw [h1, h2, h3]; rfl, h4, by omega⟩]

def F49 : Fun
  | [x] => match asRD x with
    | some d => some ([], .t (.sq 1 ((nowR d).map T.str)))
    | none => none
  | _ => none

theorem ct49 : CT [(56, ⟨[false, false, false, false], treeG F56⟩)] [0, 1, 2] [] := ⟨(.cons c56.g (.nil _))⟩

theorem c49 : ACon Try.prog 49 F49 := by
  refine aconc E_ok (rs := [.tmp 2 46]) Try.func49 rfl Try.ntmps49 (by kernel_rfl) rfl (by decide) F49 (np := 1) ?_ ?_
  · intro ts h; unfold F49; split <;> first | rfl | (simp at h; done)
  intro ts H r hF hwf
  unfold F49 at hF
  split at hF <;> try (cases hF; done)
  split at hF
  case h_2 => cases hF
  rename_i x d hd
  cases hF
  obtain ⟨rfl, hok⟩ := asRD_inv hd
  have hl : F56 [.sq 1 (d.s.map T.str), .sq 2 (d.p.map rp1), .sq 1 [], .bool true] = some ([], .t (.sq 1 ((nowR d).map T.str))) := laid_call hok [] true
  repeat refine St (And.intro @RD.T.eq_def <| And.intro @rdk.eq_def <| hl) ct49 ?_
  exact AWP.ret (Fin trivial [] [])

def F41 : Fun
  | [x] => match asRD x with
    | some d => some ([], .tup [.t (RD.T ⟨d.s, d.p, (rsp d.l d.off).1, (rsp d.l d.off).2.1⟩), .t (.bool (rsp d.l d.off).2.2)])
    | none => none
  | _ => none

theorem ct41 : CT [] [0, 1, 2, 3, 5, 9, 14] [] := ⟨GClOk.nil _⟩

theorem c41 : ACon Try.prog 41 F41 := by
  refine aconc E_ok (rs := [.cell 2 49, .tmp 3 4]) Try.func41 rfl Try.ntmps41 (by kernel_rfl) rfl (by decide) F41 (np := 1) ?_ ?_
  · intro ts h; unfold F41; split <;> first | rfl | (simp at h; done)
  intro ts H r hF hwf
  unfold F41 at hF
  split at hF <;> try (cases hF; done)
  split at hF
  case h_2 => cases hF
  rename_i x d hd
  cases hF
  obtain ⟨rfl, hok⟩ := asRD_inv hd
  obtain ⟨s, p, l, off⟩ := d
  have hl : inK .i64 l := by
    have := hwf _ (List.mem_cons_self)
    simp only [RD.T, rdk, T.wf, T.wfL] at this
    exact this.2.2.1
  have hl2 : l ≤ 9223372036854775807 := hl.2
  cases off
  case true =>
    repeat refine St (And.intro @RD.T.eq_def <| @rdk.eq_def) ct41 ?_
    exact AWP.ret (Fin (And.intro @RD.T.eq_def <| And.intro @rdk.eq_def <| @rsp.eq_def) [] [])
  by_cases h0 : l = 0
  · subst h0
    repeat refine St (And.intro @RD.T.eq_def <| @rdk.eq_def) ct41 ?_
    exact AWP.ret (Fin (And.intro @RD.T.eq_def <| And.intro @rdk.eq_def <| @rsp.eq_def) [] [])
  have h0' : (l == 0) = false := by simp [h0]
  by_cases h1 : 0 < l
  · have hk1 : IntKind.i64.wrap (l - 1) = l - 1 := wrap_i64 (by omega) (by omega)
    repeat refine St (And.intro @RD.T.eq_def <| And.intro @rdk.eq_def <| And.intro h0' <| And.intro h1 <| hk1) ct41 ?_
    exact AWP.ret (Fin (And.intro @RD.T.eq_def <| And.intro @rdk.eq_def <| And.intro @rsp.eq_def <| And.intro h1 <| h0) [] [])
  · repeat refine St (And.intro @RD.T.eq_def <| And.intro @rdk.eq_def <| And.intro h0' <| h1) ct41 ?_
    exact AWP.ret (Fin (And.intro @RD.T.eq_def <| And.intro @rdk.eq_def <| And.intro @rsp.eq_def <| And.intro h1 <| h0) [] [])

theorem spend_call {d : RD} (h : d.ok = true) : F41 [.st [.sq 1 (d.s.map T.str), .sq 2 (d.p.map rp1), .int .i64 d.l, .bool d.off]] = some ([], .tup [.t (RD.T ⟨d.s, d.p, (rsp d.l d.off).1, (rsp d.l d.off).2.1⟩), .t (.bool (rsp d.l d.off).2.2)]) := by
  have := asRD_T h
  simp only [RD.T, rdk] at this
  simp only [F41, this]

end Go.Fw

end

section
/- The document's disk (c). -/
namespace Go.Fw
open Go Go.Proofs
set_option linter.unusedVariables false
set_option linter.unusedSimpArgs false

def F21 : Fun
  | [x, .int .i64 i, .by b] => match asRD x with
    | some d => if i < 0 ∨ (d.s.length : Int) ≤ i ∨ b.length ≠ 128 then some ([], .tup [.t d.T, .t (.int .i64 1)])
      else if (rsp d.l d.off).2.2 = false then some ([], .tup [.t (RD.T ⟨d.s, d.p, (rsp d.l d.off).1, (rsp d.l d.off).2.1⟩), .t (.int .i64 7)])
      else some ([], .tup [.t (RD.T ⟨d.s, d.p ++ [(i, b)], (rsp d.l d.off).1, (rsp d.l d.off).2.1⟩), .t (.int .i64 0)])
    | none => none
  | _ => none

theorem ct21 : CT [(41, ⟨[false], treeG F41⟩)] [0, 1, 2, 3, 6, 7, 8, 9, 23, 31] [] := ⟨(.cons c41.g (.nil _))⟩

set_option maxHeartbeats 1000000 in
theorem c21 : ACon Try.prog 21 F21 := by
  refine aconc E_ok (rs := [.cell 6 49, .tmp 7 28]) Try.func21 rfl Try.ntmps21 (by kernel_rfl) rfl (by decide) F21 (np := 3) ?_ ?_
  · intro ts h; unfold F21; split <;> first | rfl | (simp at h; done)
  intro ts H r hF hwf
  unfold F21 at hF
  split at hF <;> try (cases hF; done)
  rename_i x i b
  split at hF
  case h_2 => cases hF
  rename_i d hd
  obtain ⟨rfl, hok⟩ := asRD_inv hd
  have hsp := spend_call hok
  obtain ⟨s, p, l, off⟩ := d
  obtain ⟨hfit, hfs, hfp, hsl, hpl⟩ := RD.ok_iff.1 hok
  simp only at hF hsp hfit hfs hfp hsl hpl
  by_cases h1 : i < 0
  · rw [if_pos (.inl h1)] at hF
    cases hF
    repeat refine St (And.intro @RD.T.eq_def <| And.intro @rdk.eq_def <| h1) ct21 ?_
    exact AWP.ret (Fin (And.intro @RD.T.eq_def <| @rdk.eq_def) [] [])
  by_cases h2 : (s.length : Int) ≤ i
  · rw [if_pos (.inr (.inl h2))] at hF
    cases hF
    repeat refine St (And.intro @RD.T.eq_def <| And.intro @rdk.eq_def <| And.intro h1 <| h2) ct21 ?_
    exact AWP.ret (Fin (And.intro @RD.T.eq_def <| @rdk.eq_def) [] [])
  by_cases h3 : b.length = 128
  case neg =>
    rw [if_pos (.inr (.inr h3))] at hF
    cases hF
    have h3' : ((b.length : Int) != 128) = true := by simp; omega
    repeat refine St (And.intro @RD.T.eq_def <| And.intro @rdk.eq_def <| And.intro h1 <| And.intro h2 <| h3') ct21 ?_
    exact AWP.ret (Fin (And.intro @RD.T.eq_def <| @rdk.eq_def) [] [])
  rw [if_neg (by omega)] at hF
  have h3' : ((b.length : Int) != 128) = false := by simp; omega
  generalize rsp l off = sp at *
  obtain ⟨l', off', ok⟩ := sp
  cases ok
  · rw [if_pos rfl] at hF
    cases hF
    repeat refine St (And.intro @RD.T.eq_def <| And.intro @rdk.eq_def <| And.intro h1 <| And.intro h2 <| And.intro h3' <| hsp) ct21 ?_
    exact AWP.ret (Fin (And.intro @RD.T.eq_def <| @rdk.eq_def) [] [])
  · rw [if_neg (by simp)] at hF
    cases hF
    repeat refine St (And.intro @RD.T.eq_def <| And.intro @rdk.eq_def <| And.intro h1 <| And.intro h2 <| And.intro h3' <| hsp) ct21 ?_
    exact AWP.ret (Fin (And.intro @RD.T.eq_def <| And.intro @rdk.eq_def <| And.intro @List.map_append.{0, 0} <| @rp1.eq_def) [5] [])

def F70 : Fun
  | [x] => match asRD x with
    | some d => if (rsp d.l d.off).2.2 = false then some ([], .tup [.t (RD.T ⟨d.s, d.p, (rsp d.l d.off).1, (rsp d.l d.off).2.1⟩), .t (.int .i64 7)])
      else some ([], .tup [.t (RD.T ⟨nowR d, [], (rsp d.l d.off).1, (rsp d.l d.off).2.1⟩), .t (.int .i64 0)])
    | none => none
  | _ => none

theorem ct70 : CT [(41, ⟨[false], treeG F41⟩), (49, ⟨[false], treeG F49⟩)] [0, 1, 2, 3, 4, 11] [] := ⟨(.cons c41.g (.cons c49.g (.nil _)))⟩

theorem now_call {d : RD} (h : d.ok = true) (l : Int) (off : Bool) : F49 [.st [.sq 1 (d.s.map T.str), .sq 2 (d.p.map rp1), .int .i64 l, .bool off]] = some ([], .t (.sq 1 ((nowR d).map T.str))) := by
  have h2 : (RD.mk d.s d.p l off).ok = true := h
  have := asRD_T h2
  simp only [RD.T, rdk] at this
  simp only [F49, this]
  rfl

theorem c70 : ACon Try.prog 70 F70 := by
  refine aconc E_ok (rs := [.cell 2 49, .tmp 3 28]) Try.func70 rfl Try.ntmps70 (by kernel_rfl) rfl (by decide) F70 (np := 1) ?_ ?_
  · intro ts h; unfold F70; split <;> first | rfl | (simp at h; done)
  intro ts H r hF hwf
  unfold F70 at hF
  split at hF <;> try (cases hF; done)
  rename_i x
  split at hF
  case h_2 => cases hF
  rename_i d hd
  obtain ⟨rfl, hok⟩ := asRD_inv hd
  have hsp := spend_call hok
  have hnow := now_call hok
  generalize nowR d = N at *
  obtain ⟨s, p, l, off⟩ := d
  simp only at hF hsp hnow
  generalize rsp l off = sp at *
  obtain ⟨l', off', ok⟩ := sp
  cases ok
  · rw [if_pos rfl] at hF
    cases hF
    repeat refine St (And.intro @RD.T.eq_def <| And.intro @rdk.eq_def <| hsp) ct70 ?_
    exact AWP.ret (Fin (And.intro @RD.T.eq_def <| @rdk.eq_def) [] [])
  · rw [if_neg (by simp)] at hF
    cases hF
    repeat refine St (And.intro @RD.T.eq_def <| And.intro @rdk.eq_def <| And.intro hsp <| hnow) ct70 ?_
    exact AWP.ret (Fin (And.intro @RD.T.eq_def <| @rdk.eq_def) [] [])

def F28 : Fun
  | [x, .int .i64 k] => match asRD x with
    | some d => some ([], .t (RD.T ⟨d.s, d.p, (if d.off = true then d.l else if 0 > k then 0 else k), d.off⟩))
    | none => none
  | _ => none

theorem ct28 : CT [] [0, 1, 2, 4, 6] [] := ⟨GClOk.nil _⟩

theorem c28 : ACon Try.prog 28 F28 := by
  refine aconc E_ok (rs := [.cell 4 49]) Try.func28 rfl Try.ntmps28 (by kernel_rfl) rfl (by decide) F28 (np := 2) ?_ ?_
  · intro ts h; unfold F28; split <;> first | rfl | (simp at h; done)
  intro ts H r hF hwf
  unfold F28 at hF
  split at hF <;> try (cases hF; done)
  rename_i x k
  split at hF
  case h_2 => cases hF
  rename_i d hd
  cases hF
  obtain ⟨rfl, hok⟩ := asRD_inv hd
  obtain ⟨s, p, l, off⟩ := d
  cases off
  · repeat refine St (And.intro @RD.T.eq_def <| @rdk.eq_def) ct28 ?_
    exact AWP.ret (Fin (And.intro @RD.T.eq_def <| @rdk.eq_def) [] [])
  · repeat refine St (And.intro @RD.T.eq_def <| @rdk.eq_def) ct28 ?_
    exact AWP.ret (Fin (And.intro @RD.T.eq_def <| @rdk.eq_def) [] [])

def F27 : Fun
  | [x, .sq 1 ks] => match asRD x with
    | some d => match asInts ks with
      | some ks => some ([], .t (RD.T ⟨laidN d.s d.p ks false d.p.length, [], -1, false⟩))
      | none => none
    | none => none
  | _ => none

theorem ct27 : CT [(56, ⟨[false, false, false, false], treeG F56⟩)] [0, 1, 2, 4] [] := ⟨(.cons c56.g (.nil _))⟩

theorem c27 : ACon Try.prog 27 F27 := by
  refine aconc E_ok (rs := [.cell 4 49]) Try.func27 rfl Try.ntmps27 (by kernel_rfl) rfl (by decide) F27 (np := 2) ?_ ?_
  · intro ts h; unfold F27; split <;> first | rfl | (simp at h; done)
  intro ts H r hF hwf
  unfold F27 at hF
  split at hF <;> try (cases hF; done)
  rename_i x ks
  split at hF
  case h_2 => cases hF
  rename_i d hd
  split at hF
  case h_2 => cases hF
  rename_i kl hkl
  cases hF
  obtain ⟨rfl, hok⟩ := asRD_inv hd
  obtain rfl := asInts_inv hkl
  have hl := laid_call hok kl false
  generalize laidN d.s d.p kl false d.p.length = N at *
  obtain ⟨s, p, l, off⟩ := d
  simp only at hl
  repeat refine St (And.intro @RD.T.eq_def <| And.intro @rdk.eq_def <| hl) ct27 ?_
  exact AWP.ret (Fin (And.intro @RD.T.eq_def <| @rdk.eq_def) [] [])

end Go.Fw

end

section
/- The document's disk (d). -/
namespace Go.Fw
open Go Go.Proofs
set_option linter.unusedVariables false
set_option linter.unusedSimpArgs false

def F68 : Fun
  | [x, .int .i64 i] => match asRD x with
    | some d => if i < 0 ∨ (d.s.length : Int) ≤ i then some ([], .tup [.t (.by []), .t (.int .i64 1)])
      else if d.off = true then some ([], .tup [.t (.by []), .t (.int .i64 7)])
      else some ([], .tup [.t (.by (readR d i)), .t (.int .i64 0)])
    | none => none
  | _ => none

theorem ct68 : CT [] [0, 1, 2, 4, 5, 6, 15, 17, 23, 33] [] := ⟨GClOk.nil _⟩

set_option maxHeartbeats 1000000 in
theorem c68 : ACon Try.prog 68 F68 := by
  refine aconc E_ok (rs := [.tmp 4 27, .tmp 5 28]) Try.func68 rfl Try.ntmps68 (by kernel_rfl) rfl (by decide) F68 (np := 2) ?_ ?_
  · intro ts h; unfold F68; split <;> first | rfl | (simp at h; done)
  intro ts H r hF hwf
  unfold F68 at hF
  split at hF <;> try (cases hF; done)
  rename_i x i
  split at hF
  case h_2 => cases hF
  rename_i d hd
  obtain ⟨rfl, hok⟩ := asRD_inv hd
  obtain ⟨s, p, l, off⟩ := d
  obtain ⟨hfit, hfs, hfp, hsl, hpl⟩ := RD.ok_iff.1 hok
  simp only at hF hfit hfs hfp hsl hpl
  by_cases h1 : i < 0
  · rw [if_pos (.inl h1)] at hF
    cases hF
    repeat refine St (And.intro @RD.T.eq_def <| And.intro @rdk.eq_def <| h1) ct68 ?_
    exact AWP.ret (Fin trivial [] [])
  by_cases h2 : (s.length : Int) ≤ i
  · rw [if_pos (.inr h2)] at hF
    cases hF
    repeat refine St (And.intro @RD.T.eq_def <| And.intro @rdk.eq_def <| And.intro h1 <| h2) ct68 ?_
    exact AWP.ret (Fin trivial [] [])
  rw [if_neg (by omega)] at hF
  cases off
  case true =>
    rw [if_pos rfl] at hF
    cases hF
    repeat refine St (And.intro @RD.T.eq_def <| And.intro @rdk.eq_def <| And.intro h1 <| h2) ct68 ?_
    exact AWP.ret (Fin trivial [] [])
  rw [if_neg (by simp)] at hF
  cases hF
  have hk0 : IntKind.i64.wrap ((p.length : Int) - 1) = (p.length : Int) - 1 := wrap_i64 (by omega) (by omega)
  repeat refine St (And.intro @RD.T.eq_def <| And.intro @rdk.eq_def <| And.intro h1 <| And.intro h2 <| hk0) ct68 ?_
  refine AWP.loop (G := { k : Nat // k ≤ p.length ∧ readN p i p.length = readN p i k }) (fun k => ⟨[(1, .t (.int .i64 i)), (2, .ptr 0 0 []), (6, .t (.int .i64 ((k.1 : Int) - 1)))], [.bx (.t (.st [.sq 1 (s.map T.str), .sq 2 (p.map rp1), .int .i64 l, .bool false]))]⟩) (fun k => k.1) ⟨p.length, by omega, rfl⟩ (Wt trivial [1, 2, 6] [0]) ?_
  intro ⟨k, hk, hrk⟩
  dsimp only
  by_cases hlt : 0 ≤ (k : Int) - 1
  case neg =>
    obtain rfl : k = 0 := by omega
    have e0 : ((0 : Nat) : Int) - 1 = -1 := rfl
    rw [e0]
    have hi0 : i.toNat < s.length := by omega
    have h2' : i < (s.length : Int) := by omega
    have h1' : 0 ≤ i := by omega
    have hsg : (List.map T.str s).getD i.toNat default = .str (s.getD i.toNat []) := by simp [List.getD_eq_getElem?_getD, hi0]
    have hs128 := full128_get hfs hi0
    repeat refine St (And.intro hi0 <| And.intro hsg <| And.intro h2' <| And.intro h1' <| hs128) ct68 ?_
    exact AWP.ret (Fin (And.intro @readR.eq_def <| And.intro hrk <| (And.intro @readN.eq_1 <| @readN.eq_2)) [] [])
  obtain ⟨k, rfl⟩ : ∃ j, k = j + 1 := ⟨k - 1, by omega⟩
  have e : ((k + 1 : Nat) : Int) - 1 = (k : Int) := by omega
  rw [e] at hlt
  rw [e]
  have hkl : k < p.length := by omega
  have hkl' : (k : Int) < (p.length : Int) := by omega
  obtain ⟨w, hw⟩ : ∃ w, p[k]? = some w := ⟨_, List.getElem?_eq_getElem hkl⟩
  have hwd : p.getD k (0, []) = w := by simp [List.getD_eq_getElem?_getD, hw]
  have hwg : (List.map rp1 p).getD k default = .st [.int .i64 w.1, .str w.2] := by simp [List.getD_eq_getElem?_getD, hw, rp1]
  simp only [readN, hwd] at hrk
  by_cases hwi : w.1 = i
  · rw [if_pos hwi] at hrk
    have hwi' : (w.1 == i) = true := by simp [hwi]
    have hw128 := full128P_get hfp hw
    repeat refine St (And.intro hlt <| And.intro hkl <| And.intro hkl' <| And.intro hwg <| And.intro hwi' <| hw128) ct68 ?_
    exact AWP.ret (Fin (And.intro @readR.eq_def <| hrk) [] [])
  · rw [if_neg hwi] at hrk
    have hwi' : (w.1 == i) = false := by simp [hwi]
    have hk1 : IntKind.i64.wrap ((k : Int) - 1) = (k : Int) - 1 := wrap_i64 (by omega) (by omega)
    repeat refine St (And.intro hlt <| And.intro hkl <| And.intro hkl' <| And.intro hwg <| And.intro hwi' <| hk1) ct68 ?_
    exact ⟨⟨k, by omega, hrk⟩, (Wt trivial [1, 2, 6] [0]), by simp only; omega⟩

def F25 : Fun
  | [x] => match asRD x with
    | some d => some ([], .t (.by (nowR d).flatten))
    | none => none
  | _ => none

theorem ct25 : CT [(49, ⟨[false], treeG F49⟩)] [0, 1, 2, 3, 4, 5, 12] [] := ⟨(.cons c49.g (.nil _))⟩

set_option maxHeartbeats 1000000 in
theorem c25 : ACon Try.prog 25 F25 := by
  refine aconc E_ok (rs := [.tmp 2 27]) Try.func25 rfl Try.ntmps25 (by kernel_rfl) rfl (by decide) F25 (np := 1) ?_ ?_
  · intro ts h; unfold F25; split <;> first | rfl | (simp at h; done)
  intro ts H r hF hwf
  unfold F25 at hF
  split at hF <;> try (cases hF; done)
  split at hF
  case h_2 => cases hF
  rename_i x d hd
  cases hF
  obtain ⟨rfl, hok⟩ := asRD_inv hd
  have hnow := now_call hok d.l d.off
  have hNf := nowR_full hok
  have hNl := nowR_len d
  have hsl := (RD.ok_iff.1 hok).2.2.2.1
  rw [← hNl] at hsl
  generalize nowR d = N at *
  repeat refine St (And.intro @RD.T.eq_def <| And.intro @rdk.eq_def <| hnow) ct25 ?_
  refine AWP.loop (G := { x : Nat // x ≤ N.length }) (fun x => ⟨[(3, .t (.sq 1 (N.map T.str))), (4, .own 0), (5, .t (.int .i64 (x.1 : Int)))], [.by (N.take x.1).flatten]⟩) (fun x => N.length - x.1) ⟨0, by omega⟩ (Wt (@List.flatten_nil.{0}) [3, 4, 5] [1]) ?_
  intro ⟨i, hi⟩
  dsimp only
  by_cases hlt : (i : Int) < (N.length : Int)
  · have hil : i < N.length := by omega
    obtain ⟨y, hy⟩ : ∃ y, N[i]? = some y := ⟨_, List.getElem?_eq_getElem hil⟩
    have hyg : (List.map T.str N).getD i default = .str y := by simp [List.getD_eq_getElem?_getD, hy]
    have hfl : (N.take i).flatten.length ≤ 128000000 := by rw [full128_flat (full128_take hNf i), List.length_take]; omega
    have hyl : y.length = 128 := by have := full128_get hNf hil; rwa [List.getD_eq_getElem?_getD, hy] at this
    have hny : N[i] = y := by rw [List.getElem?_eq_getElem hil] at hy; exact Option.some.inj hy
    have hnx : (N.take i).flatten ++ y = (N.take (i + 1)).flatten := by
      rw [List.take_succ_eq_append_getElem hil, List.flatten_append, hny]; simp
    have hk1 : IntKind.i64.wrap ((i : Int) + 1) = ((i + 1 : Nat) : Int) := by rw [wrap_i64 (by omega) (by omega)]; omega
    repeat refine St (And.intro hlt <| And.intro hyg <| And.intro hil <| And.intro hfl <| And.intro hyl <| hk1) ct25 ?_
    exact ⟨⟨i + 1, by omega⟩, (Wt hnx [3, 4, 5] [1]), by simp only; omega⟩
  · obtain rfl : i = N.length := by omega
    repeat refine St hlt ct25 ?_
    exact AWP.ret (Fin trivial [0] [])

end Go.Fw

end

section
/- compact's answer: bytes laid. -/
namespace Go.Fw
open Go Go.Proofs
set_option linter.unusedVariables false
set_option linter.unusedSimpArgs false

def F51 : Fun
  | [.by b, .int .u64 n, .int .i64 m] => if b.length ≤ 549755813000 ∧ 0 ≤ m ∧ m ≤ 16 then some ([.by (b ++ le m.toNat n)], .own 0) else none
  | _ => none

theorem ct51 : CT [] [0, 1, 2, 6, 7, 8, 14] [] := ⟨GClOk.nil _⟩

theorem c51 : ACon Try.prog 51 F51 := by
  refine aconc E_ok (rs := [.tmp 6 27]) Try.func51 rfl Try.ntmps51 (by kernel_rfl) rfl (by decide) F51 (np := 3) ?_ ?_
  · intro ts h; unfold F51; split <;> first | rfl | (simp at h; done)
  intro ts H r hF hwf
  unfold F51 at hF
  split at hF <;> try (cases hF; done)
  rename_i b n m
  split at hF
  case isFalse => cases hF
  rename_i hc
  obtain ⟨hb, h0, h1⟩ := hc
  cases hF
  have hn := inK_u64 (hwf (.int .u64 n) (by simp))
  repeat refine St trivial ct51 ?_
  refine AWP.loop (G := { k : Nat // k ≤ m.toNat }) (fun k => ⟨[(1, .t (.int .u64 (shrB k.1 n))), (2, .t (.int .i64 m)), (7, .own 0), (8, .t (.int .i64 (k.1 : Int)))], [.by (b ++ le k.1 n)]⟩)
    (fun k => m.toNat - k.1) ⟨0, by omega⟩ (Wt (And.intro (And.intro @shrB.eq_1 <| @shrB.eq_2) <| (And.intro @le.eq_1 <| @le.eq_2)) [1, 2, 7, 8] [1]) ?_
  intro ⟨k, hk⟩
  dsimp only
  by_cases hlt : (k : Int) < m
  · have hl : (b ++ le k n).length ≤ 549755813100 := by simp [le_len]; omega
    have hr := shrB_range k n hn.1 hn.2
    have hq : IntKind.u64.wrap ((shrB k n).tdiv 256) = (shrB k n).fdiv 256 := by
      rw [tdiv_256 hr.1]
      have := shrB_range (k + 1) n hn.1 hn.2
      exact wrap_u64 this.1 this.2
    repeat refine St (And.intro hq <| @le_len) ct51 ?_
    exact ⟨⟨k + 1, by omega⟩, (Wt (And.intro (And.intro @shrB.eq_1 <| @shrB.eq_2) <| And.intro (And.intro @le.eq_1 <| @le.eq_2) <| @List.append_assoc.{0}) [1, 2, 7, 8] [2]), by simp only; omega⟩
  · obtain rfl : k = m.toNat := by omega
    repeat refine St trivial ct51 ?_
    exact AWP.ret (Fin trivial [] [0])

theorem put_c {b : List UInt8} (n : Int) (m : Int) (hb : b.length ≤ 549755813000) (h0 : 0 ≤ m) (h1 : m ≤ 16) : F51 [.by b, .int .u64 n, .int .i64 m] = some ([.by (b ++ le m.toNat n)], .own 0) := if_pos ⟨hb, h0, h1⟩

end Go.Fw

end

section
/- compact's answer: bytes taken apart. -/
namespace Go.Fw
open Go Go.Proofs
set_option linter.unusedVariables false
set_option linter.unusedSimpArgs false

def F75 : Fun
  | [.by b, .int .i64 n] => if b.length ≤ 549755813000 then some ([], .tup [.t (.by (spA b n)), .t (.by (spB b n)), .t (.int .i64 (spE b n))]) else none
  | _ => none

theorem ct75 : CT [] [0, 1, 4, 5, 6, 7, 8, 10, 14] [] := ⟨GClOk.nil _⟩

theorem c75 : ACon Try.prog 75 F75 := by
  refine aconc E_ok (rs := [.tmp 4 27, .tmp 5 27, .tmp 6 28]) Try.func75 rfl Try.ntmps75 (by kernel_rfl) rfl (by decide) F75 (np := 2) ?_ ?_
  · intro ts h; unfold F75; split <;> first | rfl | (simp at h; done)
  intro ts H r hF hwf
  unfold F75 at hF
  split at hF <;> try (cases hF; done)
  rename_i b n
  split at hF
  case isFalse => cases hF
  rename_i hc
  have hb := hc
  cases hF
  by_cases h1 : n < 0
  · repeat refine St trivial ct75 ?_
    exact AWP.ret (Fin (And.intro @spA.eq_def <| And.intro @spB.eq_def <| And.intro @spE.eq_def <| h1) [] [])
  by_cases h2 : (b.length : Int) < n
  · repeat refine St trivial ct75 ?_
    exact AWP.ret (Fin (And.intro @spA.eq_def <| And.intro @spB.eq_def <| And.intro @spE.eq_def <| And.intro h1 <| h2) [] [])
  repeat refine St trivial ct75 ?_
  exact AWP.ret (Fin (And.intro @spA.eq_def <| And.intro @spB.eq_def <| And.intro @spE.eq_def <| And.intro h1 <| h2) [1, 3] [])

def F69 : Fun
  | [.by b, .int .i64 n] => if b.length ≤ 549755813000 ∧ n ≤ 8 then some ([], .tup [.t (.int .u64 (num (spA b n))), .t (.by (spB b n)), .t (.int .i64 (spE b n))]) else none
  | _ => none

theorem ct69 : CT [(75, ⟨[false, false], treeG F75⟩)] [0, 1, 4, 5, 6, 7, 8, 9, 10, 11, 23] [] := ⟨(.cons c75.g (.nil _))⟩

theorem c69 : ACon Try.prog 69 F69 := by
  refine aconc E_ok (rs := [.tmp 4 100, .tmp 5 27, .tmp 6 28]) Try.func69 rfl Try.ntmps69 (by kernel_rfl) rfl (by decide) F69 (np := 2) ?_ ?_
  · intro ts h; unfold F69; split <;> first | rfl | (simp at h; done)
  intro ts H r hF hwf
  unfold F69 at hF
  split at hF <;> try (cases hF; done)
  rename_i b n
  split at hF
  case isFalse => cases hF
  rename_i hc
  obtain ⟨hb, hn⟩ := hc
  cases hF
  have h8 := spA_le b n 8 hn
  have ht : F75 [.by b, .int .i64 n] = some ([], .tup [.t (.by (spA b n)), .t (.by (spB b n)), .t (.int .i64 (spE b n))]) := if_pos hb
  generalize hx : spA b n = x at *
  repeat refine St ht ct69 ?_
  have hz : num (x.drop x.length) = 0 := by simp [num]
  refine AWP.loop (G := { k : Nat // k ≤ x.length }) (fun k => ⟨[(7, .t (.by x)), (8, .t (.by (spB b n))), (9, .t (.int .i64 (spE b n))), (10, .t (.int .u64 (num (x.drop k.1)))), (11, .t (.int .i64 ((k.1 : Int) - 1)))], []⟩)
    (fun k => k.1) ⟨x.length, by omega⟩ (Wt (And.intro hz <| (And.intro @num.eq_1 <| @num.eq_2)) [7, 8, 9, 10, 11] []) ?_
  intro ⟨k, hk⟩
  dsimp only
  by_cases hlt : 0 ≤ (k : Int) - 1
  · obtain ⟨j, rfl⟩ : ∃ j, k = j + 1 := ⟨k - 1, by omega⟩
    have hj : (((j + 1 : Nat) : Int) - 1) = (j : Int) := by omega
    have hd := num_drop x j (by omega)
    have h88 := num_lt8 (x.drop j) (by simp; omega)
    have hc := (x.getD j 0).toNat_lt
    have hw1 : IntKind.u64.wrap ((num (x.drop (j + 1)) : Int) * 256) = (num (x.drop (j + 1)) : Int) * 256 := wrap_u64 (by omega) (by omega)
    have hw2 : IntKind.u64.wrap ((x.getD j 0).toNat : Int) = ((x.getD j 0).toNat : Int) := wrap_u64 (by omega) (by omega)
    have hw3 : IntKind.u64.wrap ((num (x.drop (j + 1)) : Int) * 256 + ((x.getD j 0).toNat : Int)) = (num (x.drop j) : Int) := by rw [wrap_u64 (by omega) (by omega)]; omega
    have hjx : j < x.length := by omega
    repeat refine St (And.intro hj <| And.intro hw1 <| And.intro hw2 <| And.intro hw3 <| hjx) ct69 ?_
    exact ⟨⟨j, by omega⟩, (Wt trivial [7, 8, 9, 10, 11] []), by simp only; omega⟩
  · obtain rfl : k = 0 := by omega
    repeat refine St trivial ct69 ?_
    exact AWP.ret (Fin (@List.drop_zero.{0}) [] [])

theorem number_c (l : List UInt8) (n : Int) (h0 : l.length ≤ 549755813000) (h : n ≤ 8) : F69 [.by l, .int .i64 n] = some ([], .tup [.t (.int .u64 (num (spA l n))), .t (.by (spB l n)), .t (.int .i64 (spE l n))]) := if_pos ⟨h0, h⟩

end Go.Fw

end

section
/- The document's store: small parts. -/
namespace Go.Fw
open Go Go.Proofs
set_option linter.unusedVariables false
set_option linter.unusedSimpArgs false

noncomputable def F47 : Fun
  | [.int .i64 n] => @ite _ ((0 ≤ n ∧ n ≤ 1000000)) (Classical.propDecidable _) ((some ([], .t (.int .i64 (lstN n.toNat : Int))))) none
  | _ => none

theorem ct47 : CT [] [0, 2] [] := ⟨GClOk.nil _⟩

theorem c47 : ACon Try.prog 47 F47 := by
  refine aconc E_ok (rs := [.tmp 2 3]) Try.func47 rfl Try.ntmps47 (by kernel_rfl) rfl (by decide) F47 (np := 1) ?_ ?_
  · intro ts h; unfold F47; split <;> first | rfl | (simp at h; done)
  intro ts H r hF hwf
  unfold F47 at hF
  split at hF <;> try (cases hF; done)
  rename_i n
  split at hF
  case isFalse => cases hF
  rename_i hc
  obtain ⟨h0, h1⟩ := hc
  cases hF
  obtain ⟨k, rfl⟩ : ∃ k : Nat, n = (k : Int) := ⟨n.toNat, by omega⟩
  have w1 : IntKind.i64.wrap (4 * (k : Int)) = ((4 * k : Nat) : Int) := by rw [wrap_i64 (by omega) (by omega)]; omega
  have w2 : IntKind.i64.wrap (4 + ((4 * k : Nat) : Int)) = ((4 * (k + 1) : Nat) : Int) := by rw [wrap_i64 (by omega) (by omega)]; omega
  have w3 : IntKind.i64.wrap (((4 * (k + 1) : Nat) : Int) + 128) = ((4 * (k + 1) + 128 : Nat) : Int) := by rw [wrap_i64 (by omega) (by omega)]; omega
  have w4 : IntKind.i64.wrap (((4 * (k + 1) + 128 : Nat) : Int) - 1) = ((4 * (k + 1) + 127 : Nat) : Int) := by rw [wrap_i64 (by omega) (by omega)]; omega
  have w5 : IntKind.i64.wrap (Int.tdiv ((4 * (k + 1) + 127 : Nat) : Int) 128) = (lstN k : Int) := by
    rw [Int.tdiv_eq_ediv_of_nonneg (by omega), wrap_i64 (by omega) (by omega)]
    unfold lstN; omega
  rw [Int.toNat_natCast]
  generalize lstN k = L at *
  repeat refine St2 (And.intro w1 <| And.intro w2 <| And.intro w3 <| And.intro w4 <| w5) ct47 ?_
  exact AWP.ret (Fin trivial [] [])

theorem rlists_c {n : Nat} (h : n ≤ 1000000) : F47 [.int .i64 (n : Int)] = some ([], .t (.int .i64 (lstN n : Int))) := by
  simp only [F47]
  rw [if_pos ⟨by omega, by omega⟩, Int.toNat_natCast]

noncomputable def F44 : Fun
  | [.int .i64 n] => @ite _ ((0 ≤ n ∧ n ≤ 100000)) (Classical.propDecidable _) ((some ([], .t (.int .i64 (slots n.toNat : Int))))) none
  | _ => none

theorem ct44 : CT [(47, ⟨[false], treeG F47⟩)] [0, 2, 3, 13] [] := ⟨(.cons c47.g (.nil _))⟩

set_option maxHeartbeats 1000000 in
theorem c44 : ACon Try.prog 44 F44 := by
  refine aconc E_ok (rs := [.tmp 2 3]) Try.func44 rfl Try.ntmps44 (by kernel_rfl) rfl (by decide) F44 (np := 1) ?_ ?_
  · intro ts h; unfold F44; split <;> first | rfl | (simp at h; done)
  intro ts H r hF hwf
  unfold F44 at hF
  split at hF <;> try (cases hF; done)
  rename_i n
  split at hF
  case isFalse => cases hF
  rename_i hc
  obtain ⟨h0, h1⟩ := hc
  cases hF
  obtain ⟨w, rfl⟩ : ∃ w : Nat, n = (w : Int) := ⟨n.toNat, by omega⟩
  rw [Int.toNat_natCast]
  repeat refine St2 trivial ct44 ?_
  refine AWP.loop (G := { k : Nat // k ≤ w ∧ slots w = sltN w (w - k) k }) (fun k => ⟨[(0, .t (.int .i64 (w : Int))), (3, .t (.int .i64 (k.1 : Int)))], []⟩) (fun k => w - k.1) ⟨0, by omega, rfl⟩ (Wt trivial [0, 3] []) ?_
  rintro ⟨k, hk, hs⟩
  dsimp only
  have hll := lstN_le (k + 1)
  have w1 : IntKind.i64.wrap ((k : Int) + 1) = ((k + 1 : Nat) : Int) := by rw [wrap_i64 (by omega) (by omega)]; omega
  have w2 : IntKind.i64.wrap (1 + (lstN (k + 1) : Int)) = ((1 + lstN (k + 1) : Nat) : Int) := by rw [wrap_i64 (by omega) (by omega)]; omega
  have w3 : IntKind.i64.wrap (2 * ((k + 1 : Nat) : Int)) = ((2 * (k + 1) : Nat) : Int) := by rw [wrap_i64 (by omega) (by omega)]; omega
  have w4 : IntKind.i64.wrap (((1 + lstN (k + 1) : Nat) : Int) + ((2 * (k + 1) : Nat) : Int)) = ((1 + lstN (k + 1) + 2 * (k + 1) : Nat) : Int) := by rw [wrap_i64 (by omega) (by omega)]; omega
  have hl := rlists_c (n := k + 1) (by omega)
  cases hf : fitsN w k with
  | true =>
    have hlt := fitsN_lt hf
    have hc : ((1 + lstN (k + 1) + 2 * (k + 1) : Nat) : Int) ≤ (w : Int) := by
      unfold fitsN at hf
      have := of_decide_eq_true hf
      omega
    have hs2 := slt_step hk hf
    generalize lstN (k + 1) = L at *
    repeat refine St2 (And.intro w1 <| And.intro w2 <| And.intro w3 <| And.intro w4 <| And.intro hl <| hc) ct44 ?_
    exact ⟨⟨k + 1, by omega, by rw [hs, hs2]⟩, (Wt trivial [0, 3] []), by simp only; omega⟩
  | false =>
    have hc : ¬ ((1 + lstN (k + 1) + 2 * (k + 1) : Nat) : Int) ≤ (w : Int) := by
      unfold fitsN at hf
      have := of_decide_eq_false hf
      omega
    have hlay : slots w = k := by rw [hs, slt_stop hf]
    repeat refine St2 (And.intro w1 <| And.intro w2 <| And.intro w3 <| And.intro w4 <| And.intro hl <| hc) ct44 ?_
    exact AWP.ret (Fin hlay [] [])

theorem rslots_c {w : Nat} (h : w ≤ 100000) : F44 [.int .i64 (w : Int)] = some ([], .t (.int .i64 (slots w : Int))) := by
  simp only [F44]
  rw [if_pos ⟨by omega, by omega⟩, Int.toNat_natCast]

noncomputable def F48 : Fun
  | [.by b, .int .i64 a] => @ite _ ((0 ≤ a ∧ a + 4 ≤ (b.length : Int) ∧ b.length ≤ 200000000)) (Classical.propDecidable _) ((some ([], .t (.int .i64 (numAt b a.toNat : Int))))) none
  | _ => none

theorem ct48 : CT [(69, ⟨[false, false], treeG F69⟩)] [0, 1, 4, 5] [] := ⟨(.cons c69.g (.nil _))⟩

set_option maxHeartbeats 1000000 in
theorem c48 : ACon Try.prog 48 F48 := by
  refine aconc E_ok (rs := [.tmp 4 3]) Try.func48 rfl Try.ntmps48 (by kernel_rfl) rfl (by decide) F48 (np := 2) ?_ ?_
  · intro ts h; unfold F48; split <;> first | rfl | (simp at h; done)
  intro ts H r hF hwf
  unfold F48 at hF
  split at hF <;> try (cases hF; done)
  rename_i b a
  split at hF
  case isFalse => cases hF
  rename_i hc
  obtain ⟨h0, h1, h2⟩ := hc
  cases hF
  obtain ⟨k, rfl⟩ : ∃ k : Nat, a = (k : Int) := ⟨a.toNat, by omega⟩
  have w1 : IntKind.i64.wrap ((k : Int) + 4) = ((k + 4 : Nat) : Int) := by rw [wrap_i64 (by omega) (by omega)]; omega
  have hl4 : ((b.drop k).take 4).length = 4 := by simp; omega
  have ht := number_c ((b.drop k).take 4) 4 (by omega) (by omega)
  rw [spA_full hl4] at ht
  have hnl := numAt_lt b k
  have w2 : IntKind.i64.wrap (numAt b k : Int) = (numAt b k : Int) := wrap_i64 (by omega) (by omega)
  rw [Int.toNat_natCast]
  rw [show num ((b.drop k).take 4) = numAt b k from rfl] at ht
  have hk4 : k + 4 ≤ b.length := by omega
  have hk : k ≤ k + 4 := by omega
  have hsub : List.drop k (List.take (k + 4) b) = (b.drop k).take 4 := by rw [List.drop_take, show k + 4 - k = 4 by omega]
  repeat refine St2 (And.intro w1 <| And.intro ht <| And.intro w2 <| And.intro hk4 <| And.intro hk <| hsub) ct48 ?_
  exact AWP.ret (Fin trivial [] [])

theorem rnumber_c {b : List UInt8} {a : Nat} (h1 : a + 4 ≤ b.length) (h2 : b.length ≤ 200000000) : F48 [.by b, .int .i64 (a : Int)] = some ([], .t (.int .i64 (numAt b a : Int))) := by
  simp only [F48]
  rw [if_pos ⟨by omega, by omega, h2⟩, Int.toNat_natCast]

noncomputable def F50 : Fun
  | [.by b, .int .i64 n] => @ite _ (((0 ≤ n ∧ n ≤ 8192) ∧ (b.length : Int) ≤ n * 128)) (Classical.propDecidable _) ((some ([], .t (.by (b ++ List.replicate (n.toNat * 128 - b.length) 0))))) none
  | _ => none

theorem ct50 : CT [] [0, 1, 4] [] := ⟨GClOk.nil _⟩

set_option maxHeartbeats 1000000 in
theorem c50 : ACon Try.prog 50 F50 := by
  refine aconc E_ok (rs := [.tmp 4 27]) Try.func50 rfl Try.ntmps50 (by kernel_rfl) rfl (by decide) F50 (np := 2) ?_ ?_
  · intro ts h; unfold F50; split <;> first | rfl | (simp at h; done)
  intro ts H r hF hwf
  unfold F50 at hF
  split at hF <;> try (cases hF; done)
  rename_i b n
  split at hF
  case isFalse => cases hF
  rename_i hc
  obtain ⟨h0, h1⟩ := hc
  cases hF
  obtain ⟨k, rfl⟩ : ∃ k : Nat, n = (k : Int) := ⟨n.toNat, by omega⟩
  have w1 : IntKind.i64.wrap ((k : Int) * 128) = ((k * 128 : Nat) : Int) := by rw [wrap_i64 (by omega) (by omega)]; omega
  have w2 : IntKind.i64.wrap (((k * 128 : Nat) : Int) - (b.length : Int)) = ((k * 128 - b.length : Nat) : Int) := by rw [wrap_i64 (by omega) (by omega)]; omega
  have hbl : b.length ≤ 2000000 := by omega
  have hkl : k * 128 - b.length ≤ 2000000 := by omega
  rw [Int.toNat_natCast]
  generalize k * 128 - b.length = q at *
  repeat refine St2 (And.intro w1 <| And.intro w2 <| And.intro hbl <| hkl) ct50 ?_
  exact AWP.ret (Fin trivial [2] [])

theorem rpadded_c {b : List UInt8} {n : Nat} (h0 : n ≤ 8192) (h : b.length ≤ n * 128) : F50 [.by b, .int .i64 (n : Int)] = some ([], .t (.by (b ++ List.replicate (n * 128 - b.length) 0))) := by
  simp only [F50]
  rw [if_pos ⟨⟨by omega, by omega⟩, by omega⟩, Int.toNat_natCast]

noncomputable def F52 : Fun
  | [.by b, .int .i64 i] => @ite _ ((0 ≤ i ∧ 128 * (i + 1) ≤ (b.length : Int) ∧ b.length ≤ 200000000)) (Classical.propDecidable _) ((some ([], .t (.by (partB b i.toNat))))) none
  | _ => none

theorem ct52 : CT [] [0, 1, 4] [] := ⟨GClOk.nil _⟩

set_option maxHeartbeats 1000000 in
theorem c52 : ACon Try.prog 52 F52 := by
  refine aconc E_ok (rs := [.tmp 4 27]) Try.func52 rfl Try.ntmps52 (by kernel_rfl) rfl (by decide) F52 (np := 2) ?_ ?_
  · intro ts h; unfold F52; split <;> first | rfl | (simp at h; done)
  intro ts H r hF hwf
  unfold F52 at hF
  split at hF <;> try (cases hF; done)
  rename_i b i
  split at hF
  case isFalse => cases hF
  rename_i hc
  obtain ⟨h0, h1, h2⟩ := hc
  cases hF
  obtain ⟨k, rfl⟩ : ∃ k : Nat, i = (k : Int) := ⟨i.toNat, by omega⟩
  have w1 : IntKind.i64.wrap ((k : Int) * 128) = ((128 * k : Nat) : Int) := by rw [wrap_i64 (by omega) (by omega)]; omega
  have w2 : IntKind.i64.wrap ((k : Int) + 1) = ((k + 1 : Nat) : Int) := by rw [wrap_i64 (by omega) (by omega)]; omega
  have w3 : IntKind.i64.wrap (((k + 1 : Nat) : Int) * 128) = ((128 * k + 128 : Nat) : Int) := by rw [wrap_i64 (by omega) (by omega)]; omega
  rw [Int.toNat_natCast]
  unfold partB
  have hk4 : 128 * k + 128 ≤ b.length := by omega
  have hk : 128 * k ≤ 128 * k + 128 := by omega
  have hsub : List.drop (128 * k) (List.take (128 * k + 128) b) = (b.drop (128 * k)).take 128 := by rw [List.drop_take, show 128 * k + 128 - 128 * k = 128 by omega]
  repeat refine St2 (And.intro w1 <| And.intro w2 <| And.intro w3 <| And.intro hk4 <| And.intro hk <| hsub) ct52 ?_
  exact AWP.ret (Fin trivial [] [])

theorem rpart_c {b : List UInt8} {i : Nat} (h1 : 128 * (i + 1) ≤ b.length) (h2 : b.length ≤ 200000000) : F52 [.by b, .int .i64 (i : Int)] = some ([], .t (.by (partB b i))) := by
  simp only [F52]
  rw [if_pos ⟨by omega, by omega, h2⟩, Int.toNat_natCast]

def F55 : Fun
  | [.int .u8 c] => some ([], .t (.by (padS [UInt8.ofNat c.toNat])))
  | _ => none

theorem ct55 : CT [(50, ⟨[false, false], treeG F50⟩)] [0, 2] [] := ⟨(.cons c50.g (.nil _))⟩

theorem c55 : ACon Try.prog 55 F55 := by
  refine aconc E_ok (rs := [.tmp 2 27]) Try.func55 rfl Try.ntmps55 (by kernel_rfl) rfl (by decide) F55 (np := 1) ?_ ?_
  · intro ts h; unfold F55; split <;> first | rfl | (simp at h; done)
  intro ts H r hF hwf
  unfold F55 at hF
  split at hF <;> try (cases hF; done)
  rename_i c
  cases hF
  have h := rpadded_c (b := [UInt8.ofNat c.toNat]) (n := 1) (by omega) (by simp)
  rw [show ((1 : Nat) : Int) = 1 from rfl] at h
  unfold padS
  rw [show 1 * 128 - [UInt8.ofNat c.toNat].length = 128 - [UInt8.ofNat c.toNat].length from rfl] at h
  generalize List.replicate (128 - [UInt8.ofNat c.toNat].length) (0 : UInt8) = z at *
  repeat refine St2 h ct55 ?_
  exact AWP.ret (Fin trivial [] [])

noncomputable def F29 : Fun
  | [.st [.int .i64 n, .by img, .bool br]] => @ite _ ((0 ≤ n ∧ n ≤ 1000000)) (Classical.propDecidable _) ((some ([], .t (.int .i64 (roomN n.toNat))))) none
  | _ => none

theorem ct29 : CT [] [0, 1, 2] [] := ⟨GClOk.nil _⟩

theorem c29 : ACon Try.prog 29 F29 := by
  refine aconc E_ok (rs := [.tmp 2 3]) Try.func29 rfl Try.ntmps29 (by kernel_rfl) rfl (by decide) F29 (np := 1) ?_ ?_
  · intro ts h; unfold F29; split <;> first | rfl | (simp at h; done)
  intro ts H r hF hwf
  unfold F29 at hF
  split at hF <;> try (cases hF; done)
  rename_i n img br
  split at hF
  case isFalse => cases hF
  rename_i hc
  obtain ⟨h0, h1⟩ := hc
  cases hF
  obtain ⟨k, rfl⟩ : ∃ k : Nat, n = (k : Int) := ⟨n.toNat, by omega⟩
  have w1 : IntKind.i64.wrap ((k : Int) * 128) = (k : Int) * 128 := wrap_i64 (by omega) (by omega)
  have w2 : IntKind.i64.wrap ((k : Int) * 128 - 4) = roomN k := wrap_i64 (by omega) (by omega)
  rw [Int.toNat_natCast]
  generalize roomN k = R at *
  repeat refine St2 (And.intro w1 <| w2) ct29 ?_
  exact AWP.ret (Fin trivial [] [])

theorem rroom_c {n : Nat} {img : List UInt8} {br : Bool} (h : n ≤ 1000000) : F29 [.st [.int .i64 (n : Int), .by img, .bool br]] = some ([], .t (.int .i64 (roomN n))) := by
  simp only [F29]
  rw [if_pos ⟨by omega, by omega⟩, Int.toNat_natCast]

theorem rread_c {d : RD} (h : d.ok = true) (i : Int) : F68 [.st [.sq 1 (d.s.map T.str), .sq 2 (d.p.map rp1), .int .i64 d.l, .bool d.off], .int .i64 i] = some ([], .tup [.t (.by (getD d i).1), .t (.int .i64 (getD d i).2)]) := by
  have h0 := asRD_T h
  simp only [RD.T, rdk] at h0
  simp only [F68, h0]
  unfold getD
  by_cases h1 : i < 0 ∨ (d.s.length : Int) ≤ i
  · rw [if_pos h1, if_pos h1]
  · rw [if_neg h1, if_neg h1]
    by_cases h2 : d.off = true
    · rw [if_pos h2, if_pos h2]
    · rw [if_neg h2, if_neg h2, readR_lay h (by omega) (by omega)]
theorem rdB_snoc (d : RD) : ∀ (n : Nat) (i : Int), rdB (n + 1) i d = rdB n i d ++ (getD d (i + n)).1
  | 0, i => by simp [rdB]
  | n + 1, i => by
    have := rdB_snoc d n (i + 1)
    rw [rdB, this, rdB, List.append_assoc, show i + 1 + (n : Int) = i + ((n + 1 : Nat) : Int) by omega]
theorem rdB_le {d : RD} (h : d.good = true) : ∀ (n : Nat) (i : Int), (rdB n i d).length ≤ 128 * n
  | 0, i => by simp [rdB]
  | n + 1, i => by
    have := rdB_le h n (i + 1)
    have := (getD_len h i).1
    rw [rdB, List.length_append]; omega

noncomputable def F46 : Fun
  | [x, .int .i64 i, .int .i64 n] => match asRD x with
    | some d => @ite _ ((d.good = true ∧ (0 ≤ i ∧ i ≤ 1000000) ∧ 0 ≤ n ∧ n ≤ 1000000)) (Classical.propDecidable _) ((some ([], .t (.by (rdB n.toNat i d))))) none
    | none => none
  | _ => none

theorem ct46 : CT [(68, ⟨[false, false], treeG F68⟩)] [0, 1, 2, 3, 6, 7, 8, 9, 17] [] := ⟨(.cons c68.g (.nil _))⟩

set_option maxHeartbeats 1000000 in
theorem c46 : ACon Try.prog 46 F46 := by
  refine aconc E_ok (rs := [.tmp 6 27]) Try.func46 rfl Try.ntmps46 (by kernel_rfl) rfl (by decide) F46 (np := 3) ?_ ?_
  · intro ts h; unfold F46; split <;> first | rfl | (simp at h; done)
  intro ts H r hF hwf
  unfold F46 at hF
  split at hF <;> try (cases hF; done)
  rename_i x i n
  split at hF
  case h_2 => cases hF
  rename_i d hd
  obtain ⟨rfl, hok⟩ := asRD_inv hd
  split at hF
  case isFalse => cases hF
  rename_i hc
  cases hF
  obtain ⟨hg, ⟨hi0, hi1⟩, hn0, hn1⟩ := hc
  obtain ⟨m, rfl⟩ : ∃ m : Nat, n = (m : Int) := ⟨n.toNat, by omega⟩
  rw [Int.toNat_natCast]
  have hw1 : IntKind.i64.wrap (i + (m : Int)) = i + (m : Int) := wrap_i64 (by omega) (by omega)
  repeat refine St2 (And.intro @RD.T.eq_def <| @rdk.eq_def) ct46 ?_
  refine AWP.loop (G := { k : Nat // k ≤ m }) (fun k => ⟨[(1, .t (.int .i64 i)), (2, .t (.int .i64 (m : Int))), (3, .ptr 0 0 []), (7, .own 1), (8, .t (.int .i64 (i + (k.1 : Int))))], [.bx (.t (.st [.sq 1 (d.s.map T.str), .sq 2 (d.p.map rp1), .int .i64 d.l, .bool d.off])), .by (rdB k.1 i d)]⟩) (fun k => m - k.1) ⟨0, by omega⟩ (Wt (And.intro (And.intro @rdB.eq_1 <| @rdB.eq_2) <| And.intro @Int.add_zero <| @Int.natCast_zero) [1, 2, 3, 7, 8] [0, 1]) ?_
  rintro ⟨k, hk⟩
  dsimp only
  have hsn := rdB_snoc d k i
  have hln := rdB_le hg k i
  by_cases hlt : k < m
  · have hlt2 : i + (k : Int) < i + (m : Int) := by omega
    have hr := rread_c hok (i + (k : Int))
    have hrl := (getD_len hg (i + (k : Int))).1
    have hw2 : IntKind.i64.wrap (i + (k : Int) + 1) = i + ((k + 1 : Nat) : Int) := by rw [wrap_i64 (by omega) (by omega)]; omega
    generalize getD d (i + (k : Int)) = R at *
    obtain ⟨r1, r2⟩ := R
    dsimp only at hr hrl hsn
    generalize rdB k i d = B at *
    repeat refine St2 (And.intro hlt2 <| And.intro hr <| And.intro hw1 <| And.intro hw2 <| And.intro hln <| hrl) ct46 ?_
    exact ⟨⟨k + 1, by omega⟩, (Wt hsn [1, 2, 3, 7, 8] [0, 2]), by simp only; omega⟩
  obtain rfl : k = m := by omega
  have hlt2 : ¬ i + (k : Int) < i + (k : Int) := by omega
  repeat refine St2 (And.intro hlt2 <| hw1) ct46 ?_
  exact AWP.ret (Fin trivial [1] [])

theorem rreads_c {d : RD} (h : d.good = true) {i : Int} {n : Nat} (h0 : 0 ≤ i) (h1 : i ≤ 1000000) (h2 : n ≤ 1000000) : F46 [.st [.sq 1 (d.s.map T.str), .sq 2 (d.p.map rp1), .int .i64 d.l, .bool d.off], .int .i64 i, .int .i64 (n : Int)] = some ([], .t (.by (rdB n i d))) := by
  have h3 := asRD_T (good_iff.1 h).1
  simp only [RD.T, rdk] at h3
  simp only [F46, h3]
  rw [if_pos ⟨h, ⟨h0, h1⟩, by omega, by omega⟩, Int.toNat_natCast]

end Go.Fw

end
