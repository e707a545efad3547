/- The abstract machine, and the contracts of the code: part 53. -/
import Derived.Test.YtlhghhkcoaglnaaP52

section
/- Chapter 28: StoreKeeps: its code walked. -/
namespace Go.Fw
open Go Go.Proofs
set_option linter.unusedVariables false
set_option linter.unusedSimpArgs false

noncomputable def F5 : Fun
  | [y] => match inv actsT y with
    | some l => some ([], .t (.bool true))
    | none => none
  | _ => none

theorem ct5 : CT [(8, ⟨[false], treeG F8⟩), (10, ⟨[true, false], G10⟩), (11, ⟨[true], G11⟩), (12, ⟨[], treeG F12⟩), (13, ⟨[true], G13⟩), (15, ⟨[false], treeG F15⟩), (16, ⟨[false], treeG F16⟩), (17, ⟨[true, false], G17⟩), (18, ⟨[true, false], G18⟩)] [0, 2, 3, 4, 5, 6, 7, 8, 9, 10, 11, 12, 13, 14, 15, 16, 17, 24, 32, 41, 43, 44, 51, 62, 66, 82, 113, 117, 129, 135] [] := ⟨(.cons c8.g (.cons g10 (.cons g11 (.cons c12.g (.cons g13 (.cons c15.g (.cons c16.g (.cons g17 (.cons g18 (.nil _))))))))))⟩

theorem crR_cD (d : RD) (ks : List Int) : crR d ks = cD d ks := by unfold crR cD Cr; rw [laidN_crash]
/-- The store and its disk between the acts. -/
structure KS where
  i : Nat
  d : RD
  br : Bool
  img : List UInt8
  last : List UInt8
  next : List UInt8
abbrev ksH (x : KS) : List Blk := [.bx (.st [.own 1, .own 2, .own 3, .t (.int .i64 x.d.l), .t (.bool x.d.off)]), .sq 128 (x.d.s.map (T.ba 128)), .sq 128 ((layP x.d.s x.d.p).map (T.ba 128)), .sq 129 (x.d.p.map pnd1), .bx (.st [.t (.st [.int .i64 15, .int .i64 1]), .ptr 0 0 [], .t (.by x.img), .t (.bool x.br)])]

set_option maxRecDepth 20000 in
set_option maxHeartbeats 16000000 in
theorem c5 : ACon Try.prog 5 F5 := by
  refine aconc E_ok (rs := [.tmp 2 4]) Try.func5 rfl Try.ntmps5 (by kernel_rfl) rfl (by decide) F5 (np := 1) ?_ ?_
  · intro ts h; unfold F5; split <;> first | rfl | (simp at h; done)
  intro ts H r hF hwf
  unfold F5 at hF
  split at hF <;> try (cases hF; done)
  split at hF <;> try (cases hF; done)
  rename_i l hl
  cases hF
  obtain rfl := inv_inv hl
  have hwl : (actsT l).wf := hwf _ (by simp)
  dsimp only [actsT]
  have ml : (l.map actT).length = l.length := List.length_map ..
  have s32 : slots 32 = 15 := by decide +kernel
  have l15 : lstN 15 = 1 := by decide
  have r15 : roomN 15 = 1916 := by decide
  have hmd := made_c (w := 32) (n := 15) (by omega) (by omega) s32 (by omega)
  rw [show ((32 : Nat) : Int) = 32 from rfl] at hmd
  have hL0 := Liv.made (w := 32) (n := 15) (by omega) (by omega) (by omega) ⟨15, [], false⟩
  generalize newD 32 = d0 at *
  simp only [stB, dH, l15, List.cons_append, List.nil_append, Int.cast_ofNat_Int] at hmd
  repeat refine St (And.intro hmd <| ml) ct5 ?_
  refine AWP.loop (G := { x : KS // x.i ≤ l.length ∧ Liv x.d 32 15 x.br x.last x.next }) (fun x => ⟨[(0, .t (.sq 4 (l.map actT))), (3, .ptr 0 0 []), (4, .ptr 4 0 []), (6, .t (.str x.1.last)), (7, .t (.str x.1.next)), (8, .t (.int .i64 (x.1.i : Int)))], ksH x.1⟩) (fun x => l.length - x.1.i) ⟨⟨0, d0, false, [], [], []⟩, Nat.zero_le _, hL0⟩ (Wt ml [0, 3, 4, 6, 7, 8] [0, 1, 2, 3, 4]) ?_
  rintro ⟨⟨i, d, br, img, last, next⟩, hi, hL⟩
  dsimp only at hi hL ⊢
  by_cases hlt : i < l.length
  rotate_left
  · have hlt2 : ¬ (i : Int) < (l.length : Int) := by omega
    repeat refine St (And.intro hlt2 <| And.intro ml <| @F12.eq_def) ct5 ?_
    exact AWP.ret (Fin trivial [] [])
  have hlt2 : (i : Int) < (l.length : Int) := by omega
  by_cases h30 : (i : Int) < 30
  rotate_left
  · repeat refine St (And.intro hlt2 <| And.intro h30 <| And.intro ml <| @F12.eq_def) ct5 ?_
    exact AWP.ret (Fin trivial [] [])
  have hw : IntKind.i64.wrap ((i : Int) + 1) = ((i + 1 : Nat) : Int) := by rw [wrap_i64 (by omega) (by omega)]; omega
  have g := act_getD l i hlt
  have hga : l[i]? = some (l.getD i dAct) := by simp [hlt]
  obtain ⟨q1, q2, q3⟩ := acts_wf hwl hga
  have sm := small_c (l.getD i dAct)
  have im := image_c (l.getD i dAct)
  have hil := imgB_len (l.getD i dAct).n (l.getD i dAct).b
  clear hga
  generalize l.getD i dAct = a at *
  obtain ⟨k, n, b, ks⟩ := a
  dsimp only at q1 q2 q3 sm im hil
  simp only [actT] at g
  by_cases hsm : smA ⟨k, n, b, ks⟩ = true
  rotate_left
  · have hsm : smA ⟨k, n, b, ks⟩ = false := by simpa using hsm
    rw [hsm] at sm
    repeat refine St (And.intro hlt <| And.intro hlt2 <| And.intro h30 <| And.intro ml <| And.intro hw <| And.intro g <| sm) ct5 ?_
    exact ⟨⟨⟨i + 1, d, br, img, last, next⟩, by show i + 1 ≤ l.length; omega, hL⟩, (Wt trivial [0, 3, 4, 6, 7, 8] [0, 1, 2, 3, 4]), by simp only; omega⟩
  rw [hsm] at sm
  have hks : ks.length ≤ 100 := by
    unfold smA at hsm
    rw [Bool.and_eq_true, decide_eq_true_eq, decide_eq_true_eq] at hsm
    exact hsm.2
  generalize imgB n b = B at *
  by_cases k1 : k = 1
  · subst k1
    obtain ⟨br', img', d', e, hS, hL'⟩ := hL.save (img := img) (b := B) s32 (by omega) (by omega)
    have hSv := save_c ⟨15, img, br⟩ d B (by show 15 ≤ 8192; omega) (by omega) hL.f.g (by have := hL.f.p; omega)
    rw [hS] at hSv
    clear hS
    dsimp only at hSv
    simp only [stH, stN, stB, dN, dH, l15, List.cons_append, List.nil_append, Int.cast_ofNat_Int] at hSv
    by_cases e0 : e = 0
    · subst e0
      rw [if_pos rfl, if_pos rfl] at hL'
      repeat refine St (And.intro hlt <| And.intro hlt2 <| And.intro h30 <| And.intro ml <| And.intro hw <| And.intro g <| And.intro sm <| And.intro im <| hSv) ct5 ?_
      exact ⟨⟨⟨i + 1, d', br', img', B, B⟩, by show i + 1 ≤ l.length; omega, hL'⟩, (Wt trivial [0, 3, 4, 6, 7, 8] [0, 1, 2, 6, 4]), by simp only; omega⟩
    rw [if_neg e0, if_neg e0] at hL'
    by_cases e7 : e = 7
    · subst e7
      by_cases hnl : next = last
      · subst hnl
        rw [if_pos ⟨rfl, rfl⟩] at hL'
        have hbe : (next == next) = true := beq_self_eq_true _
        repeat refine St (And.intro hlt <| And.intro hlt2 <| And.intro h30 <| And.intro ml <| And.intro hw <| And.intro g <| And.intro sm <| And.intro im <| And.intro hSv <| hbe) ct5 ?_
        exact ⟨⟨⟨i + 1, d', br', img', next, B⟩, by show i + 1 ≤ l.length; omega, hL'⟩, (Wt trivial [0, 3, 4, 6, 7, 8] [0, 1, 2, 6, 4]), by simp only; omega⟩
      · rw [if_neg (fun h => hnl h.2)] at hL'
        have hbe : (next == last) = false := by simpa using hnl
        repeat refine St (And.intro hlt <| And.intro hlt2 <| And.intro h30 <| And.intro ml <| And.intro hw <| And.intro g <| And.intro sm <| And.intro im <| And.intro hSv <| hbe) ct5 ?_
        exact ⟨⟨⟨i + 1, d', br', img', last, next⟩, by show i + 1 ≤ l.length; omega, hL'⟩, (Wt trivial [0, 3, 4, 6, 7, 8] [0, 1, 2, 6, 4]), by simp only; omega⟩
    rw [if_neg (fun h => e7 h.1)] at hL'
    have e0b : (e == 0) = false := by simpa using e0
    have e7b : (e == 7) = false := by simpa using e7
    repeat refine St (And.intro hlt <| And.intro hlt2 <| And.intro h30 <| And.intro ml <| And.intro hw <| And.intro g <| And.intro sm <| And.intro im <| And.intro hSv <| And.intro e0b <| e7b) ct5 ?_
    exact ⟨⟨⟨i + 1, d', br', img', last, next⟩, by show i + 1 ≤ l.length; omega, hL'⟩, (Wt trivial [0, 3, 4, 6, 7, 8] [0, 1, 2, 6, 4]), by simp only; omega⟩
  have k1b : (k == 1) = false := by simpa using k1
  by_cases k2 : k = 2
  · subst k2
    obtain ⟨b', d', hb', hW, hO1, hO2, hL'⟩ := hL.crash s32 (by omega) (by omega) ks
    have hbl : b'.length ≤ 2000 := by have := hL'.l1; rw [r15] at this; omega
    have hC := crash_c d ks hL.f.g (by omega)
    rw [crR_cD] at hC
    have hOp := open_c (cD d ks) hW.f.g (Nat.le_trans hW.f.p (by omega)) (by have := hW.f.w; dsimp only at this; omega)
    rw [hO1] at hOp
    have hOq := open_c d' hL'.f.g (Nat.le_trans hL'.f.p (by omega)) (by have := hL'.f.w; omega)
    rw [hO2] at hOq
    have hLd := load_stc ⟨15, b', false⟩ d' (by dsimp only; omega)
    clear hO1 hO2 hW
    generalize cD d ks = dc at *
    dsimp only at hOp hOq hLd
    simp only [stH, stN, stB, dN, dH, openB, l15, List.cons_append, List.nil_append, Int.cast_ofNat_Int] at hC hOp hOq hLd
    have hbe : (b' != b') = false := by simp
    by_cases hbl2 : b' = last
    · subst hbl2
      repeat refine St (And.intro hlt <| And.intro hlt2 <| And.intro h30 <| And.intro ml <| And.intro hw <| And.intro g <| And.intro sm <| And.intro k1b <| And.intro hC <| And.intro hOp <| And.intro hOq <| And.intro hLd <| hbe) ct5 ?_
      exact ⟨⟨⟨i + 1, d', false, b', b', b'⟩, by show i + 1 ≤ l.length; omega, hL'⟩, (Wt trivial [0, 3, 4, 6, 7, 8] [0, 1, 2, 9, 10]), by simp only; omega⟩
    · have hbn : b' = next := hb'.resolve_left hbl2
      subst hbn
      have hbf : (b' == last) = false := by simpa using hbl2
      have hbg : (b' != last) = true := by simpa using hbl2
      repeat refine St (And.intro hlt <| And.intro hlt2 <| And.intro h30 <| And.intro ml <| And.intro hw <| And.intro g <| And.intro sm <| And.intro k1b <| And.intro hC <| And.intro hOp <| And.intro hOq <| And.intro hLd <| And.intro hbe <| And.intro hbf <| hbg) ct5 ?_
      exact ⟨⟨⟨i + 1, d', false, b', b', b'⟩, by show i + 1 ≤ l.length; omega, hL'⟩, (Wt trivial [0, 3, 4, 6, 7, 8] [0, 1, 2, 9, 10]), by simp only; omega⟩
  have k2b : (k == 2) = false := by simpa using k2
  by_cases k3 : k = 3
  · subst k3
    have hOp := open_c d hL.f.g (Nat.le_trans hL.f.p (by omega)) (by have := hL.f.w; omega)
    rcases hL.opened s32 (by omega) (by omega) with ⟨hO, hL'⟩ | hO
    · rw [hO] at hOp
      have hbl : last.length ≤ 2000 := by have := hL'.l1; rw [r15] at this; omega
      have hLd := load_stc ⟨15, last, false⟩ d (by dsimp only; omega)
      dsimp only at hOp hLd
      simp only [stH, stN, stB, dN, dH, openB, l15, List.cons_append, List.nil_append, Int.cast_ofNat_Int] at hOp hLd
      repeat refine St (And.intro hlt <| And.intro hlt2 <| And.intro h30 <| And.intro ml <| And.intro hw <| And.intro g <| And.intro sm <| And.intro k1b <| And.intro k2b <| And.intro hOp <| hLd) ct5 ?_
      exact ⟨⟨⟨i + 1, d, false, last, last, last⟩, by show i + 1 ≤ l.length; omega, hL'⟩, (Wt trivial [0, 3, 4, 6, 7, 8] [0, 1, 2, 6, 7]), by simp only; omega⟩
    · rw [hO] at hOp
      simp only [dN, dH, openB, List.cons_append, List.nil_append] at hOp
      repeat refine St (And.intro hlt <| And.intro hlt2 <| And.intro h30 <| And.intro ml <| And.intro hw <| And.intro g <| And.intro sm <| And.intro k1b <| And.intro k2b <| hOp) ct5 ?_
      exact ⟨⟨⟨i + 1, d, br, img, last, next⟩, by show i + 1 ≤ l.length; omega, hL⟩, (Wt trivial [0, 3, 4, 6, 7, 8] [0, 1, 2, 6, 4]), by simp only; omega⟩
  have k3b : (k == 3) = false := by simpa using k3
  by_cases k4 : k = 4
  · subst k4
    have hFu := fuse_c d n
    have hL' := hL.fuse n q2
    simp only [dH] at hFu
    repeat refine St (And.intro hlt <| And.intro hlt2 <| And.intro h30 <| And.intro ml <| And.intro hw <| And.intro g <| And.intro sm <| And.intro k1b <| And.intro k2b <| And.intro k3b <| hFu) ct5 ?_
    exact ⟨⟨⟨i + 1, fuR d n, br, img, last, next⟩, by show i + 1 ≤ l.length; omega, hL'⟩, (Wt trivial [0, 3, 4, 6, 7, 8] [0, 1, 2, 3, 4]), by simp only; omega⟩
  have k4b : (k == 4) = false := by simpa using k4
  repeat refine St (And.intro hlt <| And.intro hlt2 <| And.intro h30 <| And.intro ml <| And.intro hw <| And.intro g <| And.intro sm <| And.intro k1b <| And.intro k2b <| And.intro k3b <| k4b) ct5 ?_
  exact ⟨⟨⟨i + 1, d, br, img, last, next⟩, by show i + 1 ≤ l.length; omega, hL⟩, (Wt trivial [0, 3, 4, 6, 7, 8] [0, 1, 2, 3, 4]), by simp only; omega⟩

end Go.Fw

end
