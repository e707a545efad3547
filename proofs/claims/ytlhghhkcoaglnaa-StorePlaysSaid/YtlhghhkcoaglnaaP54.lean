/- The abstract machine, and the contracts of the code: part 54. -/
import Derived.Test.YtlhghhkcoaglnaaP53

section
/- Acts on a store, as arguments. Plain. -/
namespace Go.Fw
open Go
set_option linter.unusedVariables false
set_option linter.unusedSimpArgs false

structure TAct where
  k : Int
  n : Int
  b : List UInt8
  ks : List Int
def actT (a : TAct) : T := .st [.int .i64 a.k, .int .i64 a.n, .by a.b, .sq 1 (a.ks.map (T.int .i64))]
def actsT (l : List TAct) : T := .sq 4 (l.map actT)
theorem ints_inj {a b : List Int} (h : a.map (T.int .i64) = b.map (T.int .i64)) : a = b := by
  have := asInts_map a
  rw [h, asInts_map] at this
  exact (Option.some.inj this).symm
theorem actT_inj (a b : TAct) (h : actT a = actT b) : a = b := by
  obtain ⟨k, n, c, ks⟩ := a
  obtain ⟨k', n', c', ks'⟩ := b
  simp only [actT, T.st.injEq, List.cons.injEq, T.int.injEq, T.by.injEq, T.sq.injEq, true_and, and_true] at h
  obtain ⟨h1, h2, h3, h4⟩ := h
  rw [h1, h2, h3, ints_inj h4]
theorem actsT_inj (a b : List TAct) (h : actsT a = actsT b) : a = b := by
  simp only [actsT, T.sq.injEq, true_and] at h
  induction a generalizing b with
  | nil => cases b with
    | nil => rfl
    | cons y b => simp at h
  | cons x a ih => cases b with
    | nil => simp at h
    | cons y b =>
      simp only [List.map_cons, List.cons.injEq] at h
      rw [actT_inj _ _ h.1, ih _ h.2]
abbrev shAct : Sh := .st [.int .i64, .int .i64, .by, .sq 1 (.int .i64)]
theorem i64_of (x : T) (h : (Sh.int .i64).has x) (hw : x.wf) : ∃ a : Int, x = .int .i64 a := by
  cases x <;> simp only [Sh.has] at h
  rename_i k v
  subst h
  exact ⟨v, rfl⟩
theorem act_of (x : T) (h : shAct.has x) (hw : x.wf) : ∃ a, x = actT a := by
  cases x <;> simp only [Sh.has] at h
  simp only [T.wf] at hw
  obtain ⟨a, ys, rfl, h1, h2⟩ := hasL1 h
  obtain ⟨b, ys, rfl, h3, h4⟩ := hasL1 h2
  obtain ⟨c, ys, rfl, h5, h6⟩ := hasL1 h4
  obtain ⟨d, ys, rfl, h7, h8⟩ := hasL1 h6
  obtain rfl := hasL0 h8
  obtain ⟨w1, hw⟩ := wfL1 hw
  obtain ⟨w2, hw⟩ := wfL1 hw
  obtain ⟨w3, hw⟩ := wfL1 hw
  obtain ⟨w4, hw⟩ := wfL1 hw
  obtain ⟨a, rfl⟩ := i64_of a h1 w1
  obtain ⟨b, rfl⟩ := i64_of b h3 w2
  obtain ⟨c, rfl⟩ := by_of c h5 w3
  cases d <;> simp only [Sh.has] at h7
  obtain ⟨rfl, h7⟩ := h7
  simp only [T.wf] at w4
  obtain ⟨l, rfl⟩ := list_of i64_of _ h7 w4.2.2.2
  exact ⟨⟨a, b, c, l⟩, rfl⟩
theorem acts_of {x : T} (h : (Sh.sq 4 shAct).has x) (hw : x.wf) : ∃ l : List TAct, x = actsT l := by
  cases x <;> simp only [Sh.has] at h
  obtain ⟨rfl, h⟩ := h
  simp only [T.wf] at hw
  obtain ⟨l, rfl⟩ := list_of act_of _ h hw.2.2.2
  exact ⟨l, rfl⟩
theorem acts_wf {l : List TAct} (h : (actsT l).wf) {i : Nat} {a : TAct} (ha : l[i]? = some a) : -9223372036854775808 ≤ a.n ∧ a.n ≤ 9223372036854775807 ∧ a.b.length ≤ maxLen := by
  simp only [actsT, T.wf] at h
  have := (T.wfL_iff _).1 h.2.2.2 (actT a) (List.mem_map_of_mem (List.mem_of_getElem? ha))
  simp only [actT, T.wf, T.wfL] at this
  obtain ⟨_, h2, h3, _⟩ := this
  exact ⟨h2.1, h2.2, h3⟩
def dAct : TAct := ⟨0, 0, [], []⟩
theorem act_getD (l : List TAct) (i : Nat) (h : i < l.length) : (l.map actT).getD i default = actT (l.getD i dAct) := by simp [h]
def smA (a : TAct) : Bool := decide (a.b.length ≤ 300) && decide (a.ks.length ≤ 100)

/-- What an act saves. -/
def imgN (n : Int) : Nat := (abits .and .i64 n 4095).toNat
theorem imgN_n (n : Int) : abits .and .i64 n 4095 = ((imgN n : Nat) : Int) ∧ imgN n ≤ 4095 := by
  have hp : ∃ a : Nat, abits .and .i64 n 4095 = IntKind.i64.wrap ((a &&& 4095 : Nat) : Int) := ⟨_, rfl⟩
  obtain ⟨a, ha⟩ := hp
  have h63 : a &&& 4095 ≤ 4095 := Nat.and_le_right
  rw [wrap_i64 (by omega) (by omega)] at ha
  unfold imgN
  rw [ha]
  exact ⟨by omega, by omega⟩
def imgF (b : List UInt8) (m i : Nat) : List UInt8 := (List.range i).map (fun j => b.getD (j % b.length) 0) ++ List.replicate (m - i) 0
def imgB (n : Int) (b : List UInt8) : List UInt8 := if b = [] then List.replicate (imgN n) 0 else imgF b (imgN n) (imgN n)
theorem imgF_len (b : List UInt8) (m i : Nat) (h : i ≤ m) : (imgF b m i).length = m := by simp [imgF]; omega
theorem imgB_len (n : Int) (b : List UInt8) : (imgB n b).length ≤ 4095 := by
  have := (imgN_n n).2
  unfold imgB
  split
  · simp; omega
  · rw [imgF_len _ _ _ (Nat.le_refl _)]; omega
theorem imgF_step (b : List UInt8) (m i : Nat) (h : i < m) : imgF b m (i + 1) = (imgF b m i).set i (b.getD (i % b.length) 0) := by
  unfold imgF
  rw [List.set_append, if_neg (by simp), List.range_succ, List.map_append]
  simp only [List.length_map, List.length_range, Nat.sub_self, List.map_cons, List.map_nil, List.append_assoc]
  congr 1
  rw [show m - i = (m - (i + 1)) + 1 by omega, List.replicate_succ, List.set_cons_zero]
  rfl

end Go.Fw

end

section
/- Chapter 28: acts: which are small; what one saves. -/
namespace Go.Fw
open Go Go.Proofs
set_option linter.unusedVariables false
set_option linter.unusedSimpArgs false

noncomputable def F15 : Fun
  | [y] => match inv actT y with
    | some a => some ([], .t (.bool (smA a)))
    | none => none
  | _ => none

theorem ct15 : CT [] [0, 1, 2] [] := ⟨GClOk.nil _⟩

theorem c15 : ACon Try.prog 15 F15 := by
  refine aconc E_ok (rs := [.tmp 2 4]) Try.func15 rfl Try.ntmps15 (by kernel_rfl) rfl (by decide) F15 (np := 1) ?_ ?_
  · intro ts h; unfold F15; split <;> first | rfl | (simp at h; done)
  intro ts H r hF hwf
  unfold F15 at hF
  split at hF <;> try (cases hF; done)
  split at hF <;> try (cases hF; done)
  rename_i a ha
  cases hF
  obtain rfl := inv_inv ha
  obtain ⟨k, n, b, ks⟩ := a
  have hkl : (ks.map (T.int .i64)).length = ks.length := List.length_map ..
  simp only [actT, smA]
  by_cases h1 : (b.length : Int) ≤ 300
  · by_cases h2 : (ks.length : Int) ≤ 100
    · have e : (decide (b.length ≤ 300) && decide (ks.length ≤ 100)) = true := by rw [decide_eq_true (by omega), decide_eq_true (by omega)]; rfl
      rw [e]
      repeat refine St (And.intro h1 <| And.intro h2 <| hkl) ct15 ?_
      exact AWP.ret (Fin trivial [] [])
    · have e : (decide (b.length ≤ 300) && decide (ks.length ≤ 100)) = false := by rw [decide_eq_false (show ¬ ks.length ≤ 100 by omega), Bool.and_false]
      rw [e]
      repeat refine St (And.intro h1 <| And.intro h2 <| hkl) ct15 ?_
      exact AWP.ret (Fin trivial [] [])
  · have e : (decide (b.length ≤ 300) && decide (ks.length ≤ 100)) = false := by rw [decide_eq_false (show ¬ b.length ≤ 300 by omega)]; rfl
    rw [e]
    repeat refine St (And.intro h1 <| hkl) ct15 ?_
    exact AWP.ret (Fin trivial [] [])
theorem small_c (a : TAct) : F15 [.st [.int .i64 a.k, .int .i64 a.n, .by a.b, .sq 1 (a.ks.map (T.int .i64))]] = some ([], .t (.bool (smA a))) := by
  show F15 [actT a] = _
  simp only [F15, inv_of actT_inj]

noncomputable def F16 : Fun
  | [y] => match inv actT y with
    | some a => some ([], .t (.by (imgB a.n a.b)))
    | none => none
  | _ => none

theorem ct16 : CT [] [0, 1, 2, 3, 4, 5, 19] [(6, [⟨0, [4], [], []⟩, ⟨0, [5], [], []⟩, ⟨0, [1], [], []⟩, ⟨1, [24], [], []⟩, ⟨0, [5], [], []⟩, ⟨0, [1], [], []⟩, ⟨1, [27], [], []⟩, ⟨1, [28], [6], []⟩, ⟨0, [26, 29], [6, 7], []⟩, ⟨1, [25, 30], [3, 6, 7], []⟩, ⟨1, [31], [3, 6, 7, 9], []⟩, ⟨1, [22, 23], [3, 6, 7, 9, 10], []⟩, ⟨2, [32, 33], [3, 6, 7, 9, 10, 11], []⟩])] := ⟨GClOk.nil _⟩

set_option maxHeartbeats 2000000 in
theorem c16 : ACon Try.prog 16 F16 := by
  refine aconc E_ok (rs := [.tmp 2 27]) Try.func16 rfl Try.ntmps16 (by kernel_rfl) rfl (by decide) F16 (np := 1) ?_ ?_
  · intro ts h; unfold F16; split <;> first | rfl | (simp at h; done)
  intro ts H r hF hwf
  unfold F16 at hF
  split at hF <;> try (cases hF; done)
  split at hF <;> try (cases hF; done)
  rename_i a ha
  cases hF
  obtain rfl := inv_inv ha
  obtain ⟨k, n, b, ks⟩ := a
  have hbm : b.length ≤ maxLen := by
    have := hwf _ (by simp : actT ⟨k, n, b, ks⟩ ∈ [actT ⟨k, n, b, ks⟩])
    simp only [actT, T.wf, T.wfL] at this
    exact this.2.2.1
  unfold maxLen at hbm
  obtain ⟨hn, hm⟩ := imgN_n n
  simp only [actT]
  unfold imgB
  generalize imgN n = m at *
  by_cases hb : b = []
  · subst hb
    rw [if_pos rfl]
    by_cases h0 : (0 : Int) < (m : Int)
    · repeat refine St (And.intro hn <| h0) ct16 ?_
      refine AWP.loop (G := Unit) (fun _ => ⟨[(4, .own 1), (5, .t (.int .i64 0)), (3, .t (.int .i64 (m : Int))), (1, .ptr 0 0 [])], [.bx (.t (.st [.int .i64 k, .int .i64 n, .by [], .sq 1 (ks.map (T.int .i64))])), .by (List.replicate m 0)]⟩) (fun _ => 0) () (Wt trivial [4, 5, 3, 1] [0, 1]) ?_
      intro _
      repeat refine St h0 ct16 ?_
      exact AWP.ret (Fin trivial [1] [])
    · repeat refine St (And.intro hn <| h0) ct16 ?_
      refine AWP.loop (G := Unit) (fun _ => ⟨[(4, .own 1), (5, .t (.int .i64 0)), (3, .t (.int .i64 (m : Int))), (1, .ptr 0 0 [])], [.bx (.t (.st [.int .i64 k, .int .i64 n, .by [], .sq 1 (ks.map (T.int .i64))])), .by (List.replicate m 0)]⟩) (fun _ => 0) () (Wt trivial [4, 5, 3, 1] [0, 1]) ?_
      intro _
      repeat refine St h0 ct16 ?_
      exact AWP.ret (Fin trivial [1] [])
  rw [if_neg hb]
  have hbl : (0 : Int) < (b.length : Int) := by
    have := List.length_pos_iff.2 hb
    omega
  have fill0 : imgF b m 0 = List.replicate m 0 := by unfold imgF; simp
  repeat refine St hn ct16 ?_
  refine AWP.loop (G := { i : Nat // i ≤ m }) (fun i => ⟨[(4, .own 1), (5, .t (.int .i64 (i.1 : Int))), (3, .t (.int .i64 (m : Int))), (1, .ptr 0 0 [])], [.bx (.t (.st [.int .i64 k, .int .i64 n, .by b, .sq 1 (ks.map (T.int .i64))])), .by (imgF b m i.1)]⟩) (fun i => m - i.1) ⟨0, by omega⟩ (Wt fill0 [4, 5, 3, 1] [0, 1]) ?_
  rintro ⟨i, hi⟩
  dsimp only
  have hfl := imgF_len b m i hi
  by_cases hlt : i < m
  · have hlt2 : (i : Int) < (m : Int) := by omega
    have w3 : IntKind.i64.wrap ((i : Int) + 1) = ((i + 1 : Nat) : Int) := by rw [wrap_i64 (by omega) (by omega)]; omega
    have hst := imgF_step b m i hlt
    have hmod := Nat.mod_lt i (show 0 < b.length by omega)
    have hrem : IntKind.i64.wrap (Int.tmod (i : Int) (b.length : Int)) = ((i % b.length : Nat) : Int) := by
      have e : Int.tmod (i : Int) (b.length : Int) = ((i % b.length : Nat) : Int) := by rw [Int.tmod_eq_emod_of_nonneg (by omega)]; rfl
      rw [e, wrap_i64 (by omega) (by omega)]
    have hbz : ¬ (b.length : Int) = 0 := by omega
    generalize i % b.length = q at *
    have hcv : UInt8.ofNat (b.getD q 0).toNat = b.getD q 0 := by simp
    generalize imgF b m i = B0 at *
    repeat refine St (And.intro hlt <| And.intro hlt2 <| And.intro hfl <| And.intro w3 <| And.intro hbl <| And.intro hrem <| And.intro hmod <| hbz) ct16 ?_
    exact ⟨⟨i + 1, by omega⟩, (Wt (And.intro hst <| hcv) [4, 5, 3, 1] [0, 1]), by simp only; omega⟩
  obtain rfl : i = m := by omega
  have hlt2 : ¬ ((i : Nat) : Int) < ((i : Nat) : Int) := by omega
  repeat refine St hlt2 ct16 ?_
  exact AWP.ret (Fin trivial [1] [])
theorem image_c (a : TAct) : F16 [.st [.int .i64 a.k, .int .i64 a.n, .by a.b, .sq 1 (a.ks.map (T.int .i64))]] = some ([], .t (.by (imgB a.n a.b))) := by
  show F16 [actT a] = _
  simp only [F16, inv_of actT_inj]

end Go.Fw

end

section
/- disk: all bytes. -/
namespace Go.Fw
open Go Go.Proofs
set_option linter.unusedVariables false
set_option linter.unusedSimpArgs false

noncomputable def G24 : GFun
  | HB, [.ptr 0 0 []] => match inv dH HB with
    | some d => @ite _ ((d.good = true ∧ d.s.length ≤ 8192)) (Classical.propDecidable _) ((some (dH d, .t (.by (layP d.s d.p).flatten)))) none
    | none => none
  | _, _ => none

theorem ct24 : CT [] [0, 2, 3, 4, 6, 18, 19, 20] [] := ⟨GClOk.nil _⟩

theorem flat_step {l : List (List UInt8)} {i : Nat} (h : i < l.length) : (l.take (i + 1)).flatten = (l.take i).flatten ++ l.getD i [] := by
  rw [List.take_add_one, List.getElem?_eq_getElem h, List.flatten_append]
  simp [List.getD_eq_getElem?_getD, h]

set_option maxHeartbeats 2000000 in
theorem g24 : GCon Try.prog 24 G24 := by
  refine gconc E_ok (rs := [.tmp 2 27]) Try.func24 rfl Try.ntmps24 (by kernel_rfl) rfl (by decide) G24 (np := 1) ?_ ?_
  · intro HB xs h; unfold G24; split <;> first | rfl | (simp at h; done)
  intro HB xs H r hG hwf hex
  unfold G24 at hG
  split at hG <;> try (cases hG; done)
  rename_i HB
  split at hG <;> try (cases hG; done)
  rename_i d hd
  split at hG
  case isFalse => cases hG
  rename_i hc
  cases hG
  obtain rfl := inv_inv hd
  obtain ⟨hg, hs⟩ := hc
  have hok := (good_iff.1 hg).1
  obtain ⟨hfit, hfs, hfp, hsl, hpl⟩ := RD.ok_iff.1 hok
  have hN := layP_full d.p d.s hfs hfp
  have hNl : (layP d.s d.p).length = d.s.length := layP_len _ _
  clear hd hex hwf hok
  obtain ⟨s, p, l, o⟩ := d
  dsimp only at hN hNl hs ⊢
  simp only [dH]
  generalize layP s p = N at *
  have hml : (N.map (T.ba 128)).length = N.length := List.length_map ..
  have hw1 : IntKind.i64.wrap ((N.length : Int) * 128) = ((N.length * 128 : Nat) : Int) := by rw [wrap_i64 (by omega) (by omega)]; omega
  have hcap : N.length * 128 ≤ 2000000 := by omega
  repeat refine St (And.intro (And.intro @gentry.eq_1 <| @gentry.eq_2) <| And.intro hml <| And.intro hw1 <| hcap) ct24 ?_
  refine AWP.loop (G := { k : Nat // k ≤ N.length }) (fun k => ⟨[(0, .ptr 0 0 []), (3, .own 4), (18, .t (.int .i64 (N.length : Int))), (19, .t (.int .i64 (k.1 : Int)))], [.bx (.st [.own 1, .own 2, .own 3, .t (.int .i64 l), .t (.bool o)]), .sq 128 (s.map (T.ba 128)), .sq 128 (N.map (T.ba 128)), .sq 129 (p.map pnd1), .by (N.take k.1).flatten]⟩) (fun k => N.length - k.1) ⟨0, by omega⟩ (Wt (And.intro @List.take_zero.{0} <| @List.flatten_nil.{0}) [0, 3, 18, 19] [0, 1, 2, 3, 4]) ?_
  rintro ⟨k, hk⟩
  dsimp only
  by_cases hlt : k < N.length
  · have hlt2 : (k : Int) < (N.length : Int) := by omega
    have hk1 : IntKind.i64.wrap ((k : Int) + 1) = ((k + 1 : Nat) : Int) := by rw [wrap_i64 (by omega) (by omega)]; omega
    have hst := flat_step hlt
    have hg := sect_get N k hlt
    have h128 := full128_get hN hlt
    have hfl : (N.take k).flatten.length ≤ 2000000 := by
      rw [full128_flat (full128_take hN k), List.length_take]; omega
    generalize N.getD k [] = x at *
    generalize (N.take k).flatten = B at *
    have htk : List.take 128 x = x := List.take_of_length_le (by omega)
    repeat refine St (And.intro hlt <| And.intro hlt2 <| And.intro hml <| And.intro hk1 <| And.intro hg <| And.intro h128 <| hfl) ct24 ?_
    exact ⟨⟨k + 1, by omega⟩, (Wt (And.intro hst <| htk) [0, 3, 18, 19] [0, 1, 2, 3, 5]), by simp only; omega⟩
  obtain rfl : k = N.length := by omega
  have hlt2 : ¬ (N.length : Int) < (N.length : Int) := by omega
  rw [List.take_length]
  repeat refine St hlt2 ct24 ?_
  exact AWP.ret (Fin trivial [4] [0, 1, 2, 3])

theorem dump_c (d : RD) (hg : d.good = true) (hs : d.s.length ≤ 8192) : G24 [.bx (.st [.own 1, .own 2, .own 3, .t (.int .i64 (d.l)), .t (.bool d.off)]), .sq 128 ((d.s).map (T.ba 128)), .sq 128 ((layP d.s d.p).map (T.ba 128)), .sq 129 ((d.p).map pnd1)] [.ptr 0 0 []] = some (dH d, .t (.by (layP d.s d.p).flatten)) := by
  show G24 (dH d) _ = _
  simp only [G24, inv_of dH_inj]
  exact if_pos ⟨hg, hs⟩

end Go.Fw

end
