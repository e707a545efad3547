/- The abstract machine, and the contracts of the code: part 50. -/
import Derived.Test.YtfjpkocbfbinaaaP49

section
/- Chapter 33: RpcEntries: its code walked. -/
namespace Go.Fw
open Go Go.Proofs
set_option linter.unusedVariables false
set_option linter.unusedSimpArgs false

theorem entA_T (l : List TE) : aT (entA l) = .st [.int .u8 6, .int .i64 0, .ba 32 (zby 32), .int .u32 0, .ar 4 1 [.int .u64 0, .int .u64 0, .int .u64 0, .int .u64 0], .int .u64 0, .bool false, .by [], .sq 69 (l.map eT), .ar 5 1 [.int .u32 0, .int .u32 0, .int .u32 0, .int .u32 0, .int .u32 0], .sq 32 []] := rfl
theorem all_app (l : List TE) (i : Nat) (h : i < l.length) : (l.take (i + 1)).all okEb = ((l.take i).all okEb && okEb (l.getD i dE)) := by
  rw [take_getDx dE l i h]; simp

noncomputable def F8 : Fun
  | [y] => match inv entsT y with
    | some l => some ([], .t (.bool true))
    | none => none
  | _ => none

theorem ct8 : CT [(9, ⟨[], treeG F9⟩), (16, ⟨[false], treeG F16⟩), (21, ⟨[false], treeG F21⟩)] [0, 2, 3, 4, 5, 6, 7, 8, 9, 12, 20, 63, 92, 96, 108] [(17, [⟨0, [7], [], []⟩, ⟨1, [99], [], []⟩, ⟨0, [9], [], []⟩, ⟨1, [100, 101], [1], []⟩, ⟨1, [102], [1, 3], []⟩, ⟨0, [0], [], []⟩, ⟨0, [9], [], []⟩, ⟨1, [104, 105], [], []⟩, ⟨1, [106], [7], []⟩, ⟨0, [103, 107], [1, 3, 4, 7, 8], []⟩])] := ⟨(.cons c9.g (.cons c16.g (.cons c21.g (.nil _))))⟩

set_option maxRecDepth 20000 in
set_option maxHeartbeats 8000000 in
theorem c8 : ACon Try.prog 8 F8 := by
  refine aconc E_ok (rs := [.tmp 2 4]) Try.func8 rfl Try.ntmps8 (by kernel_rfl) rfl (by decide) F8 (np := 1) ?_ ?_
  · intro ts h; unfold F8; split <;> first | rfl | (simp at h; done)
  intro ts H r hF hwf
  unfold F8 at hF
  split at hF <;> try (cases hF; done)
  split at hF <;> try (cases hF; done)
  rename_i l hl
  cases hF
  obtain rfl := inv_inv hl
  dsimp only [entsT]
  have ml : (l.map eT).length = l.length := List.length_map ..
  by_cases hA : 220 < (l.length : Int)
  · repeat refine St (And.intro hA <| And.intro ml <| @F9.eq_def) ct8 ?_
    exact AWP.ret (Fin trivial [] [])
  have hp := pua_c (a := entA l) ⟨Nat.zero_le _, by show l.length ≤ 1000; omega, Nat.zero_le _⟩
  rw [entA_T] at hp
  have hmay := entA_may l
  have hle200 : ((l.length : Int) ≤ 200) ↔ l.length ≤ 200 := by omega
  have hst : decide ((l.length : Int) ≤ 200) = (decide (l.length ≤ 200) && (l.take 0).all okEb) := by
    rw [List.take_zero, List.all_nil, Bool.and_true, decide_eq_decide]; exact hle200
  repeat refine St (And.intro hA <| ml) ct8 ?_
  refine AWP.loop (G := { i : Nat // i ≤ l.length }) (fun i => ⟨[(0, .t (.sq 69 (l.map eT))), (3, .t (.bool (decide (l.length ≤ 200) && (l.take i.1).all okEb))), (4, .t (.int .i64 (i.1 : Int)))], []⟩) (fun i => l.length - i.1) ⟨0, Nat.zero_le _⟩ (Wt (And.intro hst <| ml) [0, 3, 4] []) ?_
  rintro ⟨i, hi⟩
  dsimp only
  by_cases hlt : i < l.length
  · have hlt2 : (i : Int) < (l.length : Int) := by omega
    have hw : IntKind.i64.wrap ((i : Int) + 1) = ((i + 1 : Nat) : Int) := by rw [wrap_i64 (by omega) (by omega)]; omega
    have g := entE_getD l i hlt
    have hall := all_app l i hlt
    generalize l.getD i dE = x at *
    have hx1 := x.tx.2
    have hx2 := x.tpl.2
    rw [eT_st] at g
    generalize hV : (decide (l.length ≤ 200) && (l.take i).all okEb) = V at *
    have hV2 : (decide (l.length ≤ 200) && ((l.take i).all okEb && okEb x)) = (V && okEb x) := by rw [← hV, Bool.and_assoc]
    have hnext : (decide (l.length ≤ 200) && (l.take (i + 1)).all okEb) = (V && okEb x) := by rw [hall, hV2]
    cases V with
    | false =>
      rw [Bool.false_and] at hnext
      repeat refine St (And.intro hlt2 <| And.intro hlt <| And.intro ml <| hw) ct8 ?_
      exact ⟨⟨i + 1, by omega⟩, (Wt hnext [0, 3, 4] []), by simp only; omega⟩
    | true =>
      rw [Bool.true_and] at hnext
      have hok : okEb x = (decide (0 ≤ x.plan) && decide (x.plan < 2147483648) && decide (0 ≤ x.state) && decide (x.state < 2147483648)) := rfl
      rw [hok] at hnext
      by_cases p1 : 0 ≤ x.plan
      case neg =>
        rw [decide_eq_false p1] at hnext
        simp only [Bool.and_false, Bool.false_and] at hnext
        repeat refine St (And.intro hlt2 <| And.intro hlt <| And.intro ml <| And.intro hw <| And.intro g <| And.intro hx1 <| And.intro hx2 <| p1) ct8 ?_
        exact ⟨⟨i + 1, by omega⟩, (Wt hnext [0, 3, 4] []), by simp only; omega⟩
      rw [decide_eq_true p1] at hnext
      by_cases p2 : x.plan < 2147483648
      case neg =>
        rw [decide_eq_false p2] at hnext
        simp only [Bool.and_false, Bool.false_and] at hnext
        repeat refine St (And.intro hlt2 <| And.intro hlt <| And.intro ml <| And.intro hw <| And.intro g <| And.intro hx1 <| And.intro hx2 <| And.intro p1 <| p2) ct8 ?_
        exact ⟨⟨i + 1, by omega⟩, (Wt hnext [0, 3, 4] []), by simp only; omega⟩
      rw [decide_eq_true p2] at hnext
      by_cases p3 : 0 ≤ x.state
      case neg =>
        rw [decide_eq_false p3] at hnext
        simp only [Bool.and_false, Bool.false_and] at hnext
        repeat refine St (And.intro hlt2 <| And.intro hlt <| And.intro ml <| And.intro hw <| And.intro g <| And.intro hx1 <| And.intro hx2 <| And.intro p1 <| And.intro p2 <| p3) ct8 ?_
        exact ⟨⟨i + 1, by omega⟩, (Wt hnext [0, 3, 4] []), by simp only; omega⟩
      rw [decide_eq_true p3] at hnext
      by_cases p4 : x.state < 2147483648
      case neg =>
        rw [decide_eq_false p4] at hnext
        simp only [Bool.and_false, Bool.false_and] at hnext
        repeat refine St (And.intro hlt2 <| And.intro hlt <| And.intro ml <| And.intro hw <| And.intro g <| And.intro hx1 <| And.intro hx2 <| And.intro p1 <| And.intro p2 <| And.intro p3 <| p4) ct8 ?_
        exact ⟨⟨i + 1, by omega⟩, (Wt hnext [0, 3, 4] []), by simp only; omega⟩
      rw [decide_eq_true p4] at hnext
      simp only [Bool.and_true] at hnext
      repeat refine St (And.intro hlt2 <| And.intro hlt <| And.intro ml <| And.intro hw <| And.intro g <| And.intro hx1 <| And.intro hx2 <| And.intro p1 <| And.intro p2 <| And.intro p3 <| p4) ct8 ?_
      exact ⟨⟨i + 1, by omega⟩, (Wt hnext [0, 3, 4] []), by simp only; omega⟩
  have hie : i = l.length := by omega
  subst hie
  rw [List.take_length, ← hmay]
  have hlt2 : ¬ (l.length : Int) < (l.length : Int) := by omega
  cases hm : mayA (entA l) with
  | false =>
    rw [(putA_no hm).1, (putA_no hm).2] at hp
    repeat refine St (And.intro hlt2 <| And.intro ml <| And.intro hp <| @F9.eq_def) ct8 ?_
    exact AWP.ret (Fin trivial [] [])
  | true =>
    rw [(putA_yes hm).1, (putA_yes hm).2] at hp
    have hbl : (bytA (entA l)).length ≤ 549755000000 := by
      have hb := bodyAK_len (entA l) (Nat.zero_le _) (show l.length ≤ 1000 by omega) (Nat.zero_le _) (kA (entA l).op) (kA_le _)
      have : bytA (entA l) = (entA l).op :: UInt8.ofNat (entA l).e.toNat :: bodyAK (kA (entA l).op) (entA l) := rfl
      rw [this, List.length_cons, List.length_cons]; omega
    have ht := taa_c hbl
    rw [(tkA_put hm).1, (tkA_put hm).2, entA_T] at ht
    generalize bytA (entA l) = B at *
    repeat refine St (And.intro hlt2 <| And.intro ml <| And.intro hp <| ht) ct8 ?_
    refine AWP.loop (G := { i : Nat // i ≤ l.length }) (fun i => ⟨[(0, .t (.sq 69 (l.map eT))), (7, .ptr 0 0 []), (9, .t (.int .i64 (i.1 : Int)))], [.bx (.t (.st [.int .u8 6, .int .i64 0, .ba 32 (zby 32), .int .u32 0, .ar 4 1 [.int .u64 0, .int .u64 0, .int .u64 0, .int .u64 0], .int .u64 0, .bool false, .by [], .sq 69 (l.map eT), .ar 5 1 [.int .u32 0, .int .u32 0, .int .u32 0, .int .u32 0, .int .u32 0], .sq 32 []]))]⟩) (fun i => l.length - i.1) ⟨0, Nat.zero_le _⟩ (Wt trivial [0, 7, 9] [0]) ?_
    rintro ⟨i, hi⟩
    dsimp only
    by_cases hlt : i < l.length
    · have hlt3 : (i : Int) < (l.length : Int) := by omega
      have hw : IntKind.i64.wrap ((i : Int) + 1) = ((i + 1 : Nat) : Int) := by rw [wrap_i64 (by omega) (by omega)]; omega
      have g := entE_getD l i hlt
      generalize l.getD i dE = x at *
      have hx1 := x.tx.2
      have hx2 := x.tpl.2
      have hcmp := ent_beq x x
      rw [decide_eq_true rfl] at hcmp
      rw [eT_st] at g
      repeat refine St (And.intro hlt3 <| And.intro hlt <| And.intro ml <| And.intro hw <| And.intro g <| And.intro hx1 <| And.intro hx2 <| hcmp) ct8 ?_
      exact ⟨⟨i + 1, by omega⟩, (Wt trivial [0, 7, 9] [0]), by simp only; omega⟩
    · have hlt3 : ¬ (i : Int) < (l.length : Int) := by omega
      repeat refine St (And.intro hlt3 <| And.intro ml <| @F9.eq_def) ct8 ?_
      exact AWP.ret (Fin trivial [] [])

theorem rpcEntries_t (l : List TE) : F8 [entsT l] = some ([], .t (.bool true)) := by simp only [F8, inv_of entsT_inj]
theorem entsT_of {x : T} (h : (Sh.sq 69 shE).has x) (hw : x.wf) : ∃ l : List TE, x = entsT l := ents_of h hw

end Go.Fw

end
