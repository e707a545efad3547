/- The abstract machine, and the contracts of the code: part 49. -/
import Derived.Test.YtfjpkocbfbinaaaP48

section
/- rpc's answer: answers compared. -/
namespace Go.Fw
open Go Go.Proofs
set_option linter.unusedVariables false
set_option linter.unusedSimpArgs false

noncomputable def F18 : Fun
  | [x, y] => match inv aT x, inv aT y with
    | some a, some b => some ([], .t (.bool (decide (a = b))))
    | _, _ => none
  | _ => none

theorem ct18 : CT [] [0, 1, 2, 3, 4, 5, 6, 87, 92, 105, 110, 123] [(6, [⟨0, [2], [], []⟩, ⟨1, [95], [], []⟩, ⟨0, [5], [], []⟩, ⟨1, [96, 97], [1], []⟩, ⟨1, [98], [1, 3], []⟩, ⟨0, [3], [], []⟩, ⟨1, [100], [], []⟩, ⟨0, [5], [], []⟩, ⟨1, [101, 102], [6], []⟩, ⟨1, [103], [6, 8], []⟩, ⟨0, [99, 104], [1, 3, 4, 6, 8, 9], []⟩]), (11, [⟨0, [2], [], []⟩, ⟨1, [113], [], []⟩, ⟨0, [6], [], []⟩, ⟨1, [114, 115], [1], []⟩, ⟨1, [116], [1, 3], []⟩, ⟨0, [3], [], []⟩, ⟨1, [118], [], []⟩, ⟨0, [6], [], []⟩, ⟨1, [119, 120], [6], []⟩, ⟨1, [121], [6, 8], []⟩, ⟨0, [117, 122], [1, 3, 4, 6, 8, 9], []⟩])] := ⟨GClOk.nil _⟩

theorem bne_t {α : Type} [BEq α] {a b : α} (h : (a == b) = false) : (a != b) = true := by unfold bne; rw [h]; rfl
theorem bne_f {α : Type} [BEq α] {a b : α} (h : (a == b) = true) : (a != b) = false := by unfold bne; rw [h]; rfl

set_option maxRecDepth 20000 in
set_option maxHeartbeats 8000000 in
theorem c18 : ACon Try.prog 18 F18 := by
  refine aconc E_ok (rs := [.tmp 4 4]) Try.func18 rfl Try.ntmps18 (by kernel_rfl) rfl (by decide) F18 (np := 2) ?_ ?_
  · intro ts h; unfold F18; split <;> first | rfl | (simp at h; done)
  intro ts H r hF hwf
  unfold F18 at hF
  split at hF <;> try (cases hF; done)
  split at hF <;> try (cases hF; done)
  rename_i a b ha hb
  cases hF
  have hwl := hwf _ (List.mem_cons_self ..)
  obtain rfl := inv_inv ha
  obtain rfl := inv_inv hb
  clear ha hb hwf
  obtain ⟨o, e, n, g, w, v, f, x, E, u, N⟩ := a
  obtain ⟨o', e', n', g', w', v', f', x', E', u', N'⟩ := b
  have hlE : E.length ≤ 9223372036854775807 ∧ N.length ≤ 9223372036854775807 := by
    rw [aT_st] at hwl
    simp only [T.wf, T.wfL, List.length_map] at hwl
    have e1 : maxLen = 9223372036854775807 := rfl
    omega
  obtain ⟨hlE, hlN⟩ := hlE
  clear hwl
  rw [aT_st, aT_st]
  dsimp only
  have hn1 := n.2
  have hn2 := n'.2
  obtain ⟨u0, u1, u2, u3, u4, hu⟩ := n5_ex u
  obtain ⟨y0, y1, y2, y3, y4, hu'⟩ := n5_ex u'
  subst hu
  subst hu'
  simp only [wT, List.map_cons, List.map_nil, nT]
  have b1 := n8_beq o o'
  have b2 := int_beq e e'
  have b3 := h32_beq n n'
  have b4 := n32_beq g g'
  have b5 := w4_beq w w'
  have b6 := n64_beq v v'
  have b7 := bool_beq f f'
  have b8 := n5_beq u0 u1 u2 u3 u4 y0 y1 y2 y3 y4
  have b9 := by_beq x x'
  have b10 := int_beq (E.length : Int) (E'.length : Int)
  have b11 := int_beq (N.length : Int) (N'.length : Int)
  have mE : (E.map eT).length = E.length := List.length_map ..
  have mE' : (E'.map eT).length = E'.length := List.length_map ..
  have mN : (N.map hT).length = N.length := List.length_map ..
  have mN' : (N'.map hT).length = N'.length := List.length_map ..
  generalize hA : (⟨[u0, u1, u2, u3, u4], rfl⟩ : N5) = u at *
  generalize hB : (⟨[y0, y1, y2, y3, y4], rfl⟩ : N5) = u' at *
  clear hA hB
  by_cases k0 : o = o'
  case neg =>
    rw [decide_eq_false k0] at b1
    have hd : decide ((⟨o, e, n, g, w, v, f, x, E, u, N⟩ : TA) = ⟨o', e', n', g', w', v', f', x', E', u', N'⟩) = false := decide_eq_false (fun hh => k0 (TA.mk.inj hh).1)
    rw [hd]
    have m0 := bne_t b1
    repeat refine St (And.intro @lapp1 <| And.intro @lapp2 <| And.intro hn1 <| And.intro hn2 <| And.intro mE <| And.intro mE' <| And.intro mN <| And.intro mN' <| And.intro b1 <| m0) ct18 ?_
    exact AWP.ret (Fin trivial [] [])
  rw [decide_eq_true k0] at b1
  have m0 := bne_f b1
  by_cases k1 : e = e'
  case neg =>
    rw [decide_eq_false k1] at b2
    have hd : decide ((⟨o, e, n, g, w, v, f, x, E, u, N⟩ : TA) = ⟨o', e', n', g', w', v', f', x', E', u', N'⟩) = false := decide_eq_false (fun hh => k1 (TA.mk.inj hh).2.1)
    rw [hd]
    have m1 := bne_t b2
    repeat refine St (And.intro @lapp1 <| And.intro @lapp2 <| And.intro hn1 <| And.intro hn2 <| And.intro mE <| And.intro mE' <| And.intro mN <| And.intro mN' <| And.intro b1 <| And.intro m0 <| And.intro b2 <| m1) ct18 ?_
    exact AWP.ret (Fin trivial [] [])
  rw [decide_eq_true k1] at b2
  have m1 := bne_f b2
  by_cases k2 : n = n'
  case neg =>
    rw [decide_eq_false k2] at b3
    have hd : decide ((⟨o, e, n, g, w, v, f, x, E, u, N⟩ : TA) = ⟨o', e', n', g', w', v', f', x', E', u', N'⟩) = false := decide_eq_false (fun hh => k2 (TA.mk.inj hh).2.2.1)
    rw [hd]
    repeat refine St (And.intro @lapp1 <| And.intro @lapp2 <| And.intro hn1 <| And.intro hn2 <| And.intro mE <| And.intro mE' <| And.intro mN <| And.intro mN' <| And.intro b1 <| And.intro m0 <| And.intro b2 <| And.intro m1 <| b3) ct18 ?_
    exact AWP.ret (Fin trivial [] [])
  rw [decide_eq_true k2] at b3
  by_cases k3 : g = g'
  case neg =>
    rw [decide_eq_false k3] at b4
    have hd : decide ((⟨o, e, n, g, w, v, f, x, E, u, N⟩ : TA) = ⟨o', e', n', g', w', v', f', x', E', u', N'⟩) = false := decide_eq_false (fun hh => k3 (TA.mk.inj hh).2.2.2.1)
    rw [hd]
    have m3 := bne_t b4
    repeat refine St (And.intro @lapp1 <| And.intro @lapp2 <| And.intro hn1 <| And.intro hn2 <| And.intro mE <| And.intro mE' <| And.intro mN <| And.intro mN' <| And.intro b1 <| And.intro m0 <| And.intro b2 <| And.intro m1 <| And.intro b3 <| And.intro b4 <| m3) ct18 ?_
    exact AWP.ret (Fin trivial [] [])
  rw [decide_eq_true k3] at b4
  have m3 := bne_f b4
  by_cases k4 : w = w'
  case neg =>
    rw [decide_eq_false k4] at b5
    have hd : decide ((⟨o, e, n, g, w, v, f, x, E, u, N⟩ : TA) = ⟨o', e', n', g', w', v', f', x', E', u', N'⟩) = false := decide_eq_false (fun hh => k4 (TA.mk.inj hh).2.2.2.2.1)
    rw [hd]
    repeat refine St (And.intro @lapp1 <| And.intro @lapp2 <| And.intro hn1 <| And.intro hn2 <| And.intro mE <| And.intro mE' <| And.intro mN <| And.intro mN' <| And.intro b1 <| And.intro m0 <| And.intro b2 <| And.intro m1 <| And.intro b3 <| And.intro b4 <| And.intro m3 <| b5) ct18 ?_
    exact AWP.ret (Fin trivial [] [])
  rw [decide_eq_true k4] at b5
  by_cases k5 : v = v'
  case neg =>
    rw [decide_eq_false k5] at b6
    have hd : decide ((⟨o, e, n, g, w, v, f, x, E, u, N⟩ : TA) = ⟨o', e', n', g', w', v', f', x', E', u', N'⟩) = false := decide_eq_false (fun hh => k5 (TA.mk.inj hh).2.2.2.2.2.1)
    rw [hd]
    have m5 := bne_t b6
    repeat refine St (And.intro @lapp1 <| And.intro @lapp2 <| And.intro hn1 <| And.intro hn2 <| And.intro mE <| And.intro mE' <| And.intro mN <| And.intro mN' <| And.intro b1 <| And.intro m0 <| And.intro b2 <| And.intro m1 <| And.intro b3 <| And.intro b4 <| And.intro m3 <| And.intro b5 <| And.intro b6 <| m5) ct18 ?_
    exact AWP.ret (Fin trivial [] [])
  rw [decide_eq_true k5] at b6
  have m5 := bne_f b6
  by_cases k6 : f = f'
  case neg =>
    rw [decide_eq_false k6] at b7
    have hd : decide ((⟨o, e, n, g, w, v, f, x, E, u, N⟩ : TA) = ⟨o', e', n', g', w', v', f', x', E', u', N'⟩) = false := decide_eq_false (fun hh => k6 (TA.mk.inj hh).2.2.2.2.2.2.1)
    rw [hd]
    have m6 := bne_t b7
    repeat refine St (And.intro @lapp1 <| And.intro @lapp2 <| And.intro hn1 <| And.intro hn2 <| And.intro mE <| And.intro mE' <| And.intro mN <| And.intro mN' <| And.intro b1 <| And.intro m0 <| And.intro b2 <| And.intro m1 <| And.intro b3 <| And.intro b4 <| And.intro m3 <| And.intro b5 <| And.intro b6 <| And.intro m5 <| And.intro b7 <| m6) ct18 ?_
    exact AWP.ret (Fin trivial [] [])
  rw [decide_eq_true k6] at b7
  have m6 := bne_f b7
  by_cases k7 : x = x'
  case neg =>
    rw [decide_eq_false k7] at b9
    have hd : decide ((⟨o, e, n, g, w, v, f, x, E, u, N⟩ : TA) = ⟨o', e', n', g', w', v', f', x', E', u', N'⟩) = false := decide_eq_false (fun hh => k7 (TA.mk.inj hh).2.2.2.2.2.2.2.1)
    rw [hd]
    have m7 := bne_t b9
    repeat refine St (And.intro @lapp1 <| And.intro @lapp2 <| And.intro hn1 <| And.intro hn2 <| And.intro mE <| And.intro mE' <| And.intro mN <| And.intro mN' <| And.intro b1 <| And.intro m0 <| And.intro b2 <| And.intro m1 <| And.intro b3 <| And.intro b4 <| And.intro m3 <| And.intro b5 <| And.intro b6 <| And.intro m5 <| And.intro b7 <| And.intro m6 <| And.intro b9 <| m7) ct18 ?_
    exact AWP.ret (Fin trivial [] [])
  rw [decide_eq_true k7] at b9
  have m7 := bne_f b9
  by_cases k8 : u = u'
  case neg =>
    rw [decide_eq_false k8] at b8
    have hd : decide ((⟨o, e, n, g, w, v, f, x, E, u, N⟩ : TA) = ⟨o', e', n', g', w', v', f', x', E', u', N'⟩) = false := decide_eq_false (fun hh => k8 (TA.mk.inj hh).2.2.2.2.2.2.2.2.2.1)
    rw [hd]
    repeat refine St (And.intro @lapp1 <| And.intro @lapp2 <| And.intro hn1 <| And.intro hn2 <| And.intro mE <| And.intro mE' <| And.intro mN <| And.intro mN' <| And.intro b1 <| And.intro m0 <| And.intro b2 <| And.intro m1 <| And.intro b3 <| And.intro b4 <| And.intro m3 <| And.intro b5 <| And.intro b6 <| And.intro m5 <| And.intro b7 <| And.intro m6 <| And.intro b9 <| And.intro m7 <| b8) ct18 ?_
    exact AWP.ret (Fin trivial [] [])
  rw [decide_eq_true k8] at b8
  by_cases k9 : (E.length : Int) = (E'.length : Int)
  case neg =>
    rw [decide_eq_false k9] at b10
    have hd : decide ((⟨o, e, n, g, w, v, f, x, E, u, N⟩ : TA) = ⟨o', e', n', g', w', v', f', x', E', u', N'⟩) = false := decide_eq_false (fun hh => k9 (by rw [(TA.mk.inj hh).2.2.2.2.2.2.2.2.1]))
    rw [hd]
    have m9 := bne_t b10
    repeat refine St (And.intro @lapp1 <| And.intro @lapp2 <| And.intro hn1 <| And.intro hn2 <| And.intro mE <| And.intro mE' <| And.intro mN <| And.intro mN' <| And.intro b1 <| And.intro m0 <| And.intro b2 <| And.intro m1 <| And.intro b3 <| And.intro b4 <| And.intro m3 <| And.intro b5 <| And.intro b6 <| And.intro m5 <| And.intro b7 <| And.intro m6 <| And.intro b9 <| And.intro m7 <| And.intro b8 <| And.intro b10 <| m9) ct18 ?_
    exact AWP.ret (Fin trivial [] [])
  rw [decide_eq_true k9] at b10
  have m9 := bne_f b10
  by_cases k10 : (N.length : Int) = (N'.length : Int)
  case neg =>
    rw [decide_eq_false k10] at b11
    have hd : decide ((⟨o, e, n, g, w, v, f, x, E, u, N⟩ : TA) = ⟨o', e', n', g', w', v', f', x', E', u', N'⟩) = false := decide_eq_false (fun hh => k10 (by rw [(TA.mk.inj hh).2.2.2.2.2.2.2.2.2.2]))
    rw [hd]
    have m10 := bne_t b11
    repeat refine St (And.intro @lapp1 <| And.intro @lapp2 <| And.intro hn1 <| And.intro hn2 <| And.intro mE <| And.intro mE' <| And.intro mN <| And.intro mN' <| And.intro b1 <| And.intro m0 <| And.intro b2 <| And.intro m1 <| And.intro b3 <| And.intro b4 <| And.intro m3 <| And.intro b5 <| And.intro b6 <| And.intro m5 <| And.intro b7 <| And.intro m6 <| And.intro b9 <| And.intro m7 <| And.intro b8 <| And.intro b10 <| And.intro m9 <| And.intro b11 <| m10) ct18 ?_
    exact AWP.ret (Fin trivial [] [])
  rw [decide_eq_true k10] at b11
  have m10 := bne_f b11
  repeat refine St (And.intro @lapp1 <| And.intro @lapp2 <| And.intro hn1 <| And.intro hn2 <| And.intro mE <| And.intro mE' <| And.intro mN <| And.intro mN' <| And.intro b1 <| And.intro m0 <| And.intro b2 <| And.intro m1 <| And.intro b3 <| And.intro b4 <| And.intro m3 <| And.intro b5 <| And.intro b6 <| And.intro m5 <| And.intro b7 <| And.intro m6 <| And.intro b9 <| And.intro m7 <| And.intro b8 <| And.intro b10 <| And.intro m9 <| And.intro b11 <| m10) ct18 ?_
  have kE : E.length = E'.length := by omega
  have kN : N.length = N'.length := by omega
  have hE0 : E.take 0 = E'.take 0 := rfl
  refine AWP.loop (G := { i : Nat // i ≤ E.length ∧ E.take i = E'.take i }) (fun i => ⟨[(2, .ptr 0 0 []), (3, .ptr 1 0 []), (5, .t (.int .i64 (i.1 : Int)))], [.bx (.t (.st [.int .u8 (o.toNat : Int), .int .i64 e, .ba 32 n.1, .int .u32 (g.toNat : Int), .ar 4 1 [.int .u64 (w.a.toNat : Int), .int .u64 (w.b.toNat : Int), .int .u64 (w.c.toNat : Int), .int .u64 (w.d.toNat : Int)], .int .u64 (v.toNat : Int), .bool f, .by x, .sq 69 (E.map eT), .ar 5 1 [.int .u32 (u0.toNat : Int), .int .u32 (u1.toNat : Int), .int .u32 (u2.toNat : Int), .int .u32 (u3.toNat : Int), .int .u32 (u4.toNat : Int)], .sq 32 (N.map hT)])), .bx (.t (.st [.int .u8 (o'.toNat : Int), .int .i64 e', .ba 32 n'.1, .int .u32 (g'.toNat : Int), .ar 4 1 [.int .u64 (w'.a.toNat : Int), .int .u64 (w'.b.toNat : Int), .int .u64 (w'.c.toNat : Int), .int .u64 (w'.d.toNat : Int)], .int .u64 (v'.toNat : Int), .bool f', .by x', .sq 69 (E'.map eT), .ar 5 1 [.int .u32 (y0.toNat : Int), .int .u32 (y1.toNat : Int), .int .u32 (y2.toNat : Int), .int .u32 (y3.toNat : Int), .int .u32 (y4.toNat : Int)], .sq 32 (N'.map hT)]))]⟩) (fun i => E.length - i.1) ⟨0, Nat.zero_le _, hE0⟩ (Wt trivial [2, 3, 5] [0, 1]) ?_
  rintro ⟨i, hi, hti⟩
  dsimp only
  by_cases hlt : i < E.length
  · have hlt2 : (i : Int) < (E.length : Int) := by omega
    have hltm : i < E'.length := by omega
    have g1 := entE_getD E i hlt
    have g2 := entE_getD E' i hltm
    have hw : IntKind.i64.wrap ((i : Int) + 1) = ((i + 1 : Nat) : Int) := by rw [wrap_i64 (by omega) (by omega)]; omega
    obtain ⟨p, hp⟩ : ∃ p, E.getD i dE = p := ⟨_, rfl⟩
    obtain ⟨q, hq⟩ : ∃ q, E'.getD i dE = q := ⟨_, rfl⟩
    rw [hp] at g1
    rw [hq] at g2
    have hcmp := ent_beq p q
    have hs1 := p.tx.2
    have hs2 := p.tpl.2
    have hs3 := q.tx.2
    have hs4 := q.tpl.2
    rw [eT_st] at g1 g2
    by_cases hxy : p = q
    · rw [decide_eq_true hxy] at hcmp
      repeat refine St (And.intro hlt2 <| And.intro hlt <| And.intro hltm <| And.intro mE <| And.intro mE' <| And.intro g1 <| And.intro g2 <| And.intro hcmp <| And.intro hw <| And.intro hs1 <| And.intro hs2 <| And.intro hs3 <| And.intro hs4 <| And.intro hn1 <| hn2) ct18 ?_
      exact ⟨⟨i + 1, by omega, take_eq_succ dE hlt hltm hti (by rw [hp, hq]; exact hxy)⟩, (Wt trivial [2, 3, 5] [0, 1]), by simp only; omega⟩
    · rw [decide_eq_false hxy] at hcmp
      have hd : decide ((⟨o, e, n, g, w, v, f, x, E, u, N⟩ : TA) = ⟨o', e', n', g', w', v', f', x', E', u', N'⟩) = false := decide_eq_false fun hh => hxy (by rw [← hp, ← hq, (TA.mk.inj hh).2.2.2.2.2.2.2.2.1])
      rw [hd]
      repeat refine St (And.intro hlt2 <| And.intro hlt <| And.intro hltm <| And.intro mE <| And.intro mE' <| And.intro g1 <| And.intro g2 <| And.intro hcmp <| And.intro hs1 <| And.intro hs2 <| And.intro hs3 <| And.intro hs4 <| And.intro hn1 <| hn2) ct18 ?_
      exact AWP.ret (Fin trivial [] [])
  have hie : i = E.length := by omega
  have hEE : E = E' := take_eq_all kE (by rw [← hie]; exact hti)
  have hlt2 : ¬ (i : Int) < (E.length : Int) := by omega
  repeat refine St (And.intro hlt2 <| And.intro mE <| And.intro hn1 <| hn2) ct18 ?_
  have hN0 : N.take 0 = N'.take 0 := rfl
  refine AWP.loop (G := { i : Nat // i ≤ N.length ∧ N.take i = N'.take i }) (fun i => ⟨[(2, .ptr 0 0 []), (3, .ptr 1 0 []), (6, .t (.int .i64 (i.1 : Int)))], [.bx (.t (.st [.int .u8 (o.toNat : Int), .int .i64 e, .ba 32 n.1, .int .u32 (g.toNat : Int), .ar 4 1 [.int .u64 (w.a.toNat : Int), .int .u64 (w.b.toNat : Int), .int .u64 (w.c.toNat : Int), .int .u64 (w.d.toNat : Int)], .int .u64 (v.toNat : Int), .bool f, .by x, .sq 69 (E.map eT), .ar 5 1 [.int .u32 (u0.toNat : Int), .int .u32 (u1.toNat : Int), .int .u32 (u2.toNat : Int), .int .u32 (u3.toNat : Int), .int .u32 (u4.toNat : Int)], .sq 32 (N.map hT)])), .bx (.t (.st [.int .u8 (o'.toNat : Int), .int .i64 e', .ba 32 n'.1, .int .u32 (g'.toNat : Int), .ar 4 1 [.int .u64 (w'.a.toNat : Int), .int .u64 (w'.b.toNat : Int), .int .u64 (w'.c.toNat : Int), .int .u64 (w'.d.toNat : Int)], .int .u64 (v'.toNat : Int), .bool f', .by x', .sq 69 (E'.map eT), .ar 5 1 [.int .u32 (y0.toNat : Int), .int .u32 (y1.toNat : Int), .int .u32 (y2.toNat : Int), .int .u32 (y3.toNat : Int), .int .u32 (y4.toNat : Int)], .sq 32 (N'.map hT)]))]⟩) (fun i => N.length - i.1) ⟨0, Nat.zero_le _, hN0⟩ (Wt trivial [2, 3, 6] [0, 1]) ?_
  rintro ⟨i, hi, hti⟩
  dsimp only
  by_cases hlt : i < N.length
  · have hlt2 : (i : Int) < (N.length : Int) := by omega
    have hltm : i < N'.length := by omega
    have g1 := namE_getD N i hlt
    have g2 := namE_getD N' i hltm
    have hw : IntKind.i64.wrap ((i : Int) + 1) = ((i + 1 : Nat) : Int) := by rw [wrap_i64 (by omega) (by omega)]; omega
    obtain ⟨p, hp⟩ : ∃ p, N.getD i zH = p := ⟨_, rfl⟩
    obtain ⟨q, hq⟩ : ∃ q, N'.getD i zH = q := ⟨_, rfl⟩
    rw [hp] at g1
    rw [hq] at g2
    have hcmp := h32_beq p q
    have hs1 := p.2
    have hs2 := q.2
    rw [show ∀ h : H32, hT h = .ba 32 h.1 from fun _ => rfl] at g1 g2
    by_cases hxy : p = q
    · rw [decide_eq_true hxy] at hcmp
      repeat refine St (And.intro hlt2 <| And.intro hlt <| And.intro hltm <| And.intro mN <| And.intro mN' <| And.intro g1 <| And.intro g2 <| And.intro hcmp <| And.intro hw <| And.intro hs1 <| And.intro hs2 <| And.intro hn1 <| hn2) ct18 ?_
      exact ⟨⟨i + 1, by omega, take_eq_succ zH hlt hltm hti (by rw [hp, hq]; exact hxy)⟩, (Wt trivial [2, 3, 6] [0, 1]), by simp only; omega⟩
    · rw [decide_eq_false hxy] at hcmp
      have hd : decide ((⟨o, e, n, g, w, v, f, x, E, u, N⟩ : TA) = ⟨o', e', n', g', w', v', f', x', E', u', N'⟩) = false := decide_eq_false fun hh => hxy (by rw [← hp, ← hq, (TA.mk.inj hh).2.2.2.2.2.2.2.2.2.2])
      rw [hd]
      repeat refine St (And.intro hlt2 <| And.intro hlt <| And.intro hltm <| And.intro mN <| And.intro mN' <| And.intro g1 <| And.intro g2 <| And.intro hcmp <| And.intro hs1 <| And.intro hs2 <| And.intro hn1 <| hn2) ct18 ?_
      exact AWP.ret (Fin trivial [] [])
  have hie : i = N.length := by omega
  have hNN : N = N' := take_eq_all kN (by rw [← hie]; exact hti)
  have hlt2 : ¬ (i : Int) < (N.length : Int) := by omega
  have hd : decide ((⟨o, e, n, g, w, v, f, x, E, u, N⟩ : TA) = ⟨o', e', n', g', w', v', f', x', E', u', N'⟩) = true := decide_eq_true (by rw [k0, k1, k2, k3, k4, k5, k6, k7, k8, hEE, hNN])
  rw [hd]
  repeat refine St (And.intro hlt2 <| And.intro mN <| And.intro hn1 <| hn2) ct18 ?_
  exact AWP.ret (Fin trivial [] [])

theorem rsamea_c (a b : TA) : F18 [aT a, aT b] = some ([], .t (.bool (decide (a = b)))) := by
  simp only [F18, inv_of aT_inj]

end Go.Fw

end
