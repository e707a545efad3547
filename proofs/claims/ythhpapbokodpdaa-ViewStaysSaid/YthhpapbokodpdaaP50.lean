/- The abstract machine, and the contracts of the code: part 50. -/
import Derived.RangeFuncOwn
import Derived.TacticsIn
import Derived.LoopIn
import Derived.Test.YthhpapbokodpdaaP49

section
/- view: coins loaded. -/
namespace Go.Fw
open Go Go.Proofs
set_option linter.unusedVariables false
set_option linter.unusedSimpArgs false

noncomputable def loadR (R : List TCoin × Int) : List Blk × AV := @ite _ (R.2 = 0) (Classical.propDecidable _) (vwH R.1, .tup [.ptr 0 0 [], .t (.int .i64 0)]) ([], .tup [.t .nilp, .t (.int .i64 R.2)])
noncomputable def F9 : Fun
  | [.sq 37 y] => match inv (List.map coinT) y with
    | some l => @ite _ ((l.length ≤ 900000 ∧ lowL l = true)) (Classical.propDecidable _) ((some (loadR (addsV [] l)))) none
    | none => none
  | _ => none

theorem ct9 : CT [(24, ⟨[true, false], G24⟩), (26, ⟨[], treeG F26⟩)] [0, 2, 3, 4, 6, 7, 9, 10, 11, 12, 19] [] := ⟨(.cons g24 (.cons c26.g (.nil _)))⟩

set_option maxHeartbeats 2000000 in
theorem c9 : ACon Try.prog 9 F9 := by
  refine aconc E_ok (rs := [.tmp 2 29, .tmp 3 30]) Try.func9 rfl Try.ntmps9 (by kernel_rfl) rfl (by decide) F9 (np := 1) ?_ ?_
  · intro ts h; unfold F9; split <;> first | rfl | (simp at h; done)
  intro ts H r hF hwf
  unfold F9 at hF
  split at hF <;> try (cases hF; done)
  split at hF <;> try (cases hF; done)
  rename_i l hl
  split at hF
  case isFalse => cases hF
  rename_i hcc
  obtain ⟨hlen, hlow⟩ := hcc
  obtain rfl := inv_inv hl
  have hml : (l.map coinT).length = l.length := List.length_map ..
  obtain ⟨R, hR⟩ : ∃ R, addsV [] l = R := ⟨_, rfl⟩
  rw [hR] at hF
  repeat refine St (And.intro @F26.eq_def <| And.intro @vwH.eq_def <| And.intro @List.map_nil.{0, 0} <| hml) ct9 ?_
  refine AWP.weak (Weak.moveBx (v' := _) 0 1 [0] 0 _ rfl rfl rfl (by decide) (by simp only [W, eqq, ↓reduceIte, Nat.reduceEqDiff, Nat.reduceLT, Nat.reduceLeDiff, Nat.reduceAdd, Nat.reduceMul, Nat.reduceSub, Nat.reduceBEq, Int.reduceLE, Int.reduceLT, Int.reduceNeg, Int.reduceToNat, Int.reduceEq, Int.reduceBEq, Int.reduceBNe, Nat.reduceBNe, bne_self_eq_false, reduceCtorEq, gt_iff_lt, ge_iff_le]) (by simp only [W, eqq, ↓reduceIte, Nat.reduceEqDiff, Nat.reduceLT, Nat.reduceLeDiff, Nat.reduceAdd, Nat.reduceMul, Nat.reduceSub, Nat.reduceBEq, Int.reduceLE, Int.reduceLT, Int.reduceNeg, Int.reduceToNat, Int.reduceEq, Int.reduceBEq, Int.reduceBNe, Nat.reduceBNe, bne_self_eq_false, reduceCtorEq, gt_iff_lt, ge_iff_le]) (by simp only [W, eqq, ↓reduceIte, Nat.reduceEqDiff, Nat.reduceLT, Nat.reduceLeDiff, Nat.reduceAdd, Nat.reduceMul, Nat.reduceSub, Nat.reduceBEq, Int.reduceLE, Int.reduceLT, Int.reduceNeg, Int.reduceToNat, Int.reduceEq, Int.reduceBEq, Int.reduceBNe, Nat.reduceBNe, bne_self_eq_false, reduceCtorEq, gt_iff_lt, ge_iff_le]; rfl)) ?_
  refine AWP.loop (G := { x : Nat × List TCoin // x.1 ≤ l.length ∧ x.2.length ≤ x.1 ∧ lowL x.2 = true ∧ addsV x.2 (l.drop x.1) = R }) (fun x => ⟨[(4, .ptr 0 0 []), (9, .t (.sq 37 (l.map coinT))), (10, .t (.int .i64 (l.length : Int))), (11, .t (.int .i64 (x.1.1 : Int)))], [.bx (.st [.own 2]), .no, .sq 37 (x.1.2.map coinT)]⟩) (fun x => l.length - x.1.1) ⟨⟨0, []⟩, Nat.zero_le _, Nat.le_refl _, rfl, hR⟩ (Wt (@List.map_nil.{0, 0}) [4, 9, 10, 11] [0, 1, 2]) ?_
  rintro ⟨⟨i, L⟩, hi, hL, hLl, hT⟩
  dsimp only at hi hL hLl hT ⊢
  clear hR
  by_cases hlt : i < l.length
  · have hlt2 : (i : Int) < (l.length : Int) := by omega
    have hw1 : IntKind.i64.wrap ((i : Int) + 1) = ((i + 1 : Nat) : Int) := by rw [wrap_i64 (by omega) (by omega)]; omega
    have hg := coin_getD l i hlt
    have hlw := lowL_get hlow hlt
    have hdr : l.drop i = l.getD i dCoin :: l.drop (i + 1) := by
      rw [List.drop_eq_getElem_cons hlt]
      simp [List.getD_eq_getElem?_getD, hlt]
    rw [hdr, addsV] at hT
    have had := add_c L (l.getD i dCoin) (by omega) hlw
    obtain ⟨a1, a2⟩ := addV_ok hLl hlw
    rw [coinT_st] at hg
    generalize l.getD i dCoin = c at *
    generalize addV L c = A at *
    obtain ⟨L', e⟩ := A
    dsimp only at hT had a1 a2
    simp only [vwN] at had
    by_cases he : e = 0
    · subst he
      rw [if_neg (by simp)] at hT
      have hd0 : ((0 : Int) != 0) = false := rfl
      repeat refine St (And.intro hlt <| And.intro hlt2 <| And.intro hml <| And.intro hw1 <| And.intro hg <| And.intro had <| hd0) ct9 ?_
      exact ⟨⟨⟨i + 1, L'⟩, by show i + 1 ≤ l.length; omega, by show L'.length ≤ i + 1; omega, a1, hT⟩, (Wt trivial [4, 9, 10, 11] [0, 1, 4]), by simp only; omega⟩
    · rw [if_pos he] at hT
      have he2 : (e != 0) = true := by simpa using he
      subst hT
      rw [show loadR (L', e) = ([], .tup [.t .nilp, .t (.int .i64 e)]) from if_neg he] at hF
      cases hF
      repeat refine St (And.intro hlt <| And.intro hlt2 <| And.intro hml <| And.intro hw1 <| And.intro hg <| And.intro had <| he2) ct9 ?_
      exact AWP.ret (Fin trivial [] [])
  obtain rfl : i = l.length := by omega
  have hlt2 : ¬ (l.length : Int) < (l.length : Int) := by omega
  rw [List.drop_length, addsV] at hT
  subst hT
  rw [show loadR (L, 0) = (vwH L, .tup [.ptr 0 0 [], .t (.int .i64 0)]) from if_pos rfl] at hF
  cases hF
  repeat refine St hlt2 ct9 ?_
  exact AWP.ret (Fin @vwH.eq_def [] [0, 2])
theorem load_c (l : List TCoin) (h : l.length ≤ 900000) (h2 : lowL l = true) : F9 [.sq 37 (l.map coinT)] = some (loadR (addsV [] l)) := by
  have hi : inv (List.map coinT) (l.map coinT) = some l := inv_of (f := List.map coinT) (fun a b h => coins_inj a b h) l
  simp only [F9, hi]
  exact if_pos ⟨h, h2⟩

end Go.Fw

end

section
/- view: what Revert asks of what was spent. -/
namespace Go.Fw
open Go Go.Proofs
set_option linter.unusedVariables false
set_option linter.unusedSimpArgs false

noncomputable def F48 : Fun
  | [x, y] => match inv coinT x, inv rfT y with
    | some c, some r => some ([], .t (.bool (refB c.r r)))
    | _, _ => none
  | _ => none

theorem ct48 : CT [] [0, 1, 2, 3, 4] [] := ⟨GClOk.nil _⟩

theorem c48 : ACon Try.prog 48 F48 := by
  refine aconc E_ok (rs := [.tmp 4 4]) Try.func48 rfl Try.ntmps48 (by kernel_rfl) rfl (by decide) F48 (np := 2) ?_ ?_
  · intro ts h; unfold F48; split <;> first | rfl | (simp at h; done)
  intro ts H r hF hwf
  unfold F48 at hF
  split at hF <;> try (cases hF; done)
  split at hF <;> try (cases hF; done)
  rename_i c r hc hr
  cases hF
  obtain rfl := inv_inv hc
  obtain rfl := inv_inv hr
  have he : refB c.r r = (c.r.h.1 == r.h.1 && ((c.r.i.toNat : Int) == (r.i.toNat : Int))) := rfl
  rw [he]
  simp only [coinT_st, rfT]
  repeat refine St trivial ct48 ?_
  exact AWP.ret (Fin trivial [] [])
theorem rev1_c (c : TCoin) (r : TRef) : F48 [.st [.st [.ba 32 c.r.h.1, .int .u32 (c.r.i.toNat : Int)], .st [.int .u64 (c.out.val.toNat : Int), .by c.out.scr], .int .u32 (c.ht.toNat : Int), .bool c.first], .st [.ba 32 r.h.1, .int .u32 (r.i.toNat : Int)]] = some ([], .t (.bool (refB c.r r))) := by
  show F48 [coinT c, rfT r] = _
  simp only [F48, inv_of coinT_inj, inv_of rfT_inj]

noncomputable def F49 : Fun
  | [x, y, .fn 48] => match inv coinsT x, inv refsT y with
    | some l, some r => @ite _ ((l.length ≤ 1000000 ∧ r.length ≤ 1000000)) (Classical.propDecidable _) ((some ([], .t (.bool (eqRefs l r))))) none
    | _, _ => none
  | _ => none

theorem ct49 : CT [(48, ⟨[false, false], treeG F48⟩)] [0, 1, 2, 6, 7, 8, 9, 14, 15, 16, 17, 18, 30] [] := ⟨(.cons c48.g (.nil _))⟩

set_option maxHeartbeats 2000000 in
theorem c49 : ACon Try.prog 49 F49 := by
  refine aconc E_ok (rs := [.tmp 6 4]) Try.func49 rfl Try.ntmps49 (by kernel_rfl) rfl (by decide) F49 (np := 3) ?_ ?_
  · intro ts h; unfold F49; split <;> first | rfl | (simp at h; done)
  intro ts H r hF hwf
  unfold F49 at hF
  split at hF <;> try (cases hF; done)
  split at hF <;> try (cases hF; done)
  rename_i l r hl hr
  split at hF
  case isFalse => cases hF
  rename_i hcc
  obtain ⟨hl1, hl2⟩ := hcc
  cases hF
  obtain rfl := inv_inv hl
  obtain rfl := inv_inv hr
  have hml : (l.map coinT).length = l.length := List.length_map ..
  have hmr : (r.map rfT).length = r.length := List.length_map ..
  simp only [coinsT, refsT]
  by_cases hne : l.length = r.length
  rotate_left
  · have hb : ((l.length : Int) != (r.length : Int)) = true := by
      rw [bne_iff_ne]; omega
    rw [eqRefs_len hne]
    repeat refine St (And.intro hml <| And.intro hmr <| hb) ct49 ?_
    exact AWP.ret (Fin trivial [] [])
  have hb : ((l.length : Int) != (r.length : Int)) = false := by
    rw [bne_eq_false_iff_eq]; omega
  obtain ⟨R, hR⟩ : ∃ R, eqRefs l r = R := ⟨_, rfl⟩
  rw [hR]
  repeat refine St (And.intro hml <| And.intro hmr <| hb) ct49 ?_
  refine AWP.loop (G := { i : Nat // i ≤ l.length ∧ eqRefs (l.drop i) (r.drop i) = R }) (fun i => ⟨[(1, .t (.sq 33 (r.map rfT))), (2, .t (.fn 48)), (15, .t (.sq 37 (l.map coinT))), (16, .t (.int .i64 (l.length : Int))), (17, .t (.int .i64 (i.1 : Int)))], []⟩) (fun i => l.length - i.1) ⟨0, Nat.zero_le _, hR⟩ (Wt trivial [1, 2, 15, 16, 17] []) ?_
  rintro ⟨i, hi, hT⟩
  dsimp only
  by_cases hlt : i < l.length
  · have hlt2 : (i : Int) < (l.length : Int) := by omega
    have hltr : i < r.length := by omega
    have hltr2 : (i : Int) < (r.length : Int) := by omega
    have hw1 : IntKind.i64.wrap ((i : Int) + 1) = ((i + 1 : Nat) : Int) := by rw [wrap_i64 (by omega) (by omega)]; omega
    have hg := coin_getD l i hlt
    have hg2 := ref_getD r i hltr
    have hd1 : l.drop i = l.getD i dCoin :: l.drop (i + 1) := by
      rw [List.drop_eq_getElem_cons hlt]
      simp [List.getD_eq_getElem?_getD, hlt]
    have hd2 : r.drop i = r.getD i dRef :: r.drop (i + 1) := by
      rw [List.drop_eq_getElem_cons hltr]
      simp [List.getD_eq_getElem?_getD, hltr]
    rw [hd1, hd2, eqRefs] at hT
    have h1 := rev1_c (l.getD i dCoin) (r.getD i dRef)
    rw [coinT_st] at hg
    simp only [rfT] at hg2
    generalize l.getD i dCoin = c at *
    generalize r.getD i dRef = q at *
    cases hq : refB c.r q with
    | false =>
      rw [hq] at h1
      rw [hq, Bool.false_and] at hT
      subst hT
      repeat refine St (And.intro hlt <| And.intro hlt2 <| And.intro hltr <| And.intro hltr2 <| And.intro hml <| And.intro hmr <| And.intro hw1 <| And.intro hg <| And.intro hg2 <| h1) ct49 ?_
      exact AWP.ret (Fin trivial [] [])
    | true =>
      rw [hq] at h1
      rw [hq, Bool.true_and] at hT
      repeat refine St (And.intro hlt <| And.intro hlt2 <| And.intro hltr <| And.intro hltr2 <| And.intro hml <| And.intro hmr <| And.intro hw1 <| And.intro hg <| And.intro hg2 <| h1) ct49 ?_
      exact ⟨⟨i + 1, by omega, hT⟩, (Wt trivial [1, 2, 15, 16, 17] []), by simp only; omega⟩
  obtain rfl : i = l.length := by omega
  have hlt2 : ¬ (l.length : Int) < (l.length : Int) := by omega
  rw [List.drop_length, List.drop_of_length_le (show r.length ≤ l.length by omega), eqRefs] at hT
  subst hT
  repeat refine St hlt2 ct49 ?_
  exact AWP.ret (Fin trivial [] [])
theorem eqf_c (l : List TCoin) (r : List TRef) (h : l.length ≤ 1000000) (h2 : r.length ≤ 1000000) : F49 [.sq 37 (l.map coinT), .sq 33 (r.map rfT), .fn 48] = some ([], .t (.bool (eqRefs l r))) := by
  show F49 [coinsT l, refsT r, .fn 48] = _
  simp only [F49, inv_of coinsT_inj, inv_of refsT_inj]
  exact if_pos ⟨h, h2⟩

noncomputable def F50 : Fun
  | [x] => match inv coinsT x with
    | some l => some ([.bx (.t (coinsT l))], .clo 59 [.ptr 0 0 []])
    | none => none
  | _ => none

theorem ct50 : CT [] [0, 1, 2] [] := ⟨GClOk.nil _⟩

theorem c50 : ACon Try.prog 50 F50 := by
  refine aconc E_ok (rs := [.tmp 2 99]) Try.func50 rfl Try.ntmps50 (by kernel_rfl) rfl (by decide) F50 (np := 1) ?_ ?_
  · intro ts h; unfold F50; split <;> first | rfl | (simp at h; done)
  intro ts H r hF hwf
  unfold F50 at hF
  split at hF <;> try (cases hF; done)
  split at hF <;> try (cases hF; done)
  rename_i l hl
  cases hF
  obtain rfl := inv_inv hl
  simp only [coinsT]
  repeat refine St trivial ct50 ?_
  exact AWP.ret (Fin trivial [] [0])
theorem bwd_c (l : List TCoin) : F50 [.sq 37 (l.map coinT)] = some ([.bx (.t (.sq 37 (l.map coinT)))], .clo 59 [.ptr 0 0 []]) := by
  show F50 [coinsT l] = _
  simp only [F50, inv_of coinsT_inj]
  rfl

end Go.Fw

end

section
/- A range over a function: regions within a round, and behind one. -/
namespace Go.Fw
set_option linter.unusedVariables false
set_option linter.unusedSimpArgs false
open Go Go.RowKit

/-- No fence but for the kind of the frame. -/
abbrev wideAt (ρ : Option Nat) : Fence := { Fence.wide with round := ρ }
/-- An activation with deferred calls more. -/
def Act.more (a : Act) (D : List Deferred) : Act := { a with defers := a.defers ++ D }
theorem more_nil (a : Act) : Act.more a [] = a := by cases a; simp [Act.more]
theorem more_put (a : Act) (D : List Deferred) (d : Option Tmp) (v : Value) : (Act.more a D).put d v = Act.more (a.put d v) D := by cases d <;> rfl
theorem more_eval (a : Act) (D : List Deferred) : (Act.more a D).eval = a.eval := by funext x; cases x <;> rfl

theorem callsIn_at {ρ : Option Nat} {n : Nat} {P : Program} {f : FuncId} {args : Array Value} {w : World} {R : Ending → World → Prop} (h : Calls P f args w R) : CallsIn (wideAt ρ) n P f args w R :=
  show CallsIn Fence.wide n P f args w R from callsIn_wide.2 h
theorem rowsIn_at {ρ : Option Nat} {n : Nat} {P : Program} {row : String} {args : Array Value} {w : World} {R : Value → World → Prop} (h : Rows P row args w R) : RowsIn (wideAt ρ) n P row args w R :=
  show RowsIn Fence.wide n P row args w R from fun c cs _ => let ⟨v, w', r, s⟩ := h c cs; ⟨v, w', r, stepsIn_wide.2 s⟩

/-- An operation that goes on in one way only, under any fence. -/
theorem upon_in {ρ : Option Nat} {n : Nat} {P : Program} {o : Oper} {a : Act} {D : List Deferred} {next next' : Act → World → Prop} {Q Q' : Exit → Act → World → Prop} {r : Result Next}
    (hn : ∀ a1 w, (∃ v, a1.tmps = (a.put o.dst v).tmps) → next a1 w → next' (Act.more a1 D) w) (hQ : ∀ e a w, e ≠ .normal → ¬ Q e a w) (h : o.upon P a next Q r) : o.uponIn (wideAt ρ) n P (Act.more a D) next' Q' r := by
  have hlo : ¬ LetsOut Q := fun ⟨a, w, h⟩ => hQ _ _ _ (by simp) h
  unfold Oper.upon at h
  unfold Oper.uponIn
  split at h
  · rename_i v w'
    show next' ((Act.more a D).put o.dst v) w'
    rw [more_put]
    exact hn _ _ ⟨v, rfl⟩ h
  · rename_i w'
    show next' ((Act.more a D).put o.dst undef) w'
    rw [more_put]
    exact hn _ _ ⟨undef, rfl⟩ h
  · rename_i d w'
    have := hn _ _ ⟨undef, by cases o.dst <;> rfl⟩ h
    show next' ({ (Act.more a D) with defers := d :: (Act.more a D).defers }.put o.dst undef) w'
    have e : ({ (Act.more a D) with defers := d :: (Act.more a D).defers } : Act) = Act.more { a with defers := d :: a.defers } D := rfl
    rw [e, more_put]
    exact this
  · rename_i f args w'
    refine ⟨fun hd => by simp [Fence.wide] at hd, callsIn_at (h.mono fun e w'' he => ?_)⟩
    cases e with
    | returned v =>
      show next' ((Act.more a D).put o.dst v) w''
      rw [more_put]
      exact hn _ _ ⟨v, rfl⟩ he
    | panicked ch => exact (hQ _ _ _ (by simp) he).elim
    | outgrown => exact (hlo he).elim
  · rename_i row args w'
    refine ⟨fun hd => by simp [Fence.wide] at hd, rowsIn_at (h.mono fun v w'' he => ?_)⟩
    show next' ((Act.more a D).put o.dst v) w''
    rw [more_put]
    exact hn _ _ ⟨v, rfl⟩ he
  · exact (hQ _ _ _ (by simp) h).elim
  · exact h.elim

def preK (ρ : Option Nat) (n : Nat) (P : Program) (ops : Array Oper) (Q : Exit → Act → World → Prop) (D : List Deferred) (rest : List Oper) (T : Nat → Prop) (t0 : Array Value) : Exit → Act → World → Prop
  | .normal, a, w => (∀ i, T i → a.tmps.getD i undef = t0.getD i undef) → wpListIn (wideAt ρ) n P ops Q rest (Act.more a D) w
  | _, _, _ => False
theorem preK_no {ρ : Option Nat} {n : Nat} {P : Program} {ops : Array Oper} {Q : Exit → Act → World → Prop} {D : List Deferred} {rest : List Oper} {T : Nat → Prop} {t0 : Array Value} (e : Exit) (a : Act) (w : World) (he : e ≠ .normal) : ¬ preK ρ n P ops Q D rest T t0 e a w := by
  cases e <;> first | exact (he rfl).elim | exact fun h => h

def noDefer (l : List Oper) : Bool := l.all fun o => match o.op with | .defer _ => false | _ => true

theorem put_tmp (a : Act) (d : Option Tmp) (v : Value) (i : Nat) (h : d ≠ some i) : (a.put d v).tmps.getD i undef = a.tmps.getD i undef := by
  cases d with
  | none => rfl
  | some k =>
    show (a.tmps.setIfInBounds k v).getD i undef = _
    have hk : k ≠ i := fun e => h (by rw [e])
    simp [Array.getD_eq_getD_getElem?, Array.getElem?_setIfInBounds_ne hk]

/-- A region's beginning, proved for any plain frame, holds under the fence, too; temporaries that it does not write stay. -/
theorem wpListIn_pre {ρ : Option Nat} {n : Nat} {P : Program} {ops : Array Oper} {Q : Exit → Act → World → Prop} {D : List Deferred} {rest : List Oper} {T : Nat → Prop} {t0 : Array Value} :
    ∀ (pre : List Oper) (a : Act) (w : World), noDefer pre = true → (∀ i, T i → ∀ o ∈ pre, o.dst ≠ some i) → (∀ i, T i → a.tmps.getD i undef = t0.getD i undef) →
      wpList P ops (preK ρ n P ops Q D rest T t0) pre a w → wpListIn (wideAt ρ) n P ops Q (pre ++ rest) (Act.more a D) w
  | [], a, w, _, _, ht, h => h ht
  | o :: pre, a, w, hd, hT, ht, h => by
    have hd2 : noDefer pre = true := by
      unfold noDefer at hd ⊢
      simp only [List.all_cons, Bool.and_eq_true] at hd
      exact hd.2
    have hdo : ∀ c, o.op ≠ .defer c := by
      intro c hc
      unfold noDefer at hd
      simp [hc] at hd
    have ht2 : ∀ a1 : Act, (∃ v, a1.tmps = (a.put o.dst v).tmps) → ∀ i, T i → a1.tmps.getD i undef = t0.getD i undef := by
      rintro a1 ⟨v, hv⟩ i hi
      rw [hv, put_tmp a o.dst v i (hT i hi o (by simp))]
      exact ht i hi
    have hnx : ∀ a1 w1, (∃ v, a1.tmps = (a.put o.dst v).tmps) → wpList P ops (preK ρ n P ops Q D rest T t0) pre a1 w1 → wpListIn (wideAt ρ) n P ops Q (pre ++ rest) (Act.more a1 D) w1 :=
      fun a1 w1 hv h1 => wpListIn_pre pre a1 w1 hd2 (fun i hi o ho => hT i hi o (by simp [ho])) (ht2 a1 hv) h1
    rw [List.cons_append]
    unfold wpListIn
    unfold wpList at h
    have hy : yielded ops (Act.more a D).tmps = yielded ops a.tmps := rfl
    rw [hy]
    by_cases hw : Region.wanted o (yielded ops a.tmps) = true
    · rw [if_pos hw] at h ⊢
      refine ⟨fun f _ => trivial, ?_⟩
      rcases h with h | ⟨_, ⟨a1, w1, h1⟩⟩
      · rw [Oper.semAt_eq _ _ _ hdo, more_eval]
        exact upon_in hnx preK_no h
      · exact h1.elim
    · rw [if_neg hw] at h ⊢
      refine ⟨fun f _ => trivial, ?_⟩
      rw [more_put]
      exact hnx _ _ ⟨undef, rfl⟩ h

/-! ### The abstract machine under the fence. -/
def AWF (ρ : Option Nat) (D : List Deferred) (kp : Nat) (P : Program) (N : Nat) (code : Code) (Q : Exit → AS → Prop) (S : AS) : Prop :=
  ∀ (n : Nat) (c : Ctx), c.k = kp → ∀ (m : Mem) (w : World) (a : Act), Inv c m w S.H → RelS m N a S.s → code.wpIn (wideAt ρ) n P (fun e a' w' => ∃ a0, a' = Act.more a0 D ∧ APost c N Q e a0 w') (Act.more a D) w

section
variable {ρ : Option Nat} {D : List Deferred} {kp : Nat} {P : Program} {N : Nat} {Q : Exit → AS → Prop} {S : AS}

def seqF (ρ : Option Nat) (D : List Deferred) (kp : Nat) (P : Program) (N : Nat) (y : Code) (Q : Exit → AS → Prop) : Exit → AS → Prop
  | .normal, S => AWF ρ D kp P N y Q S
  | e, S => Q e S
theorem AWF.seq {x y : Code} (h : AWF ρ D kp P N x (seqF ρ D kp P N y Q) S) : AWF ρ D kp P N (.seq x y) Q S := fun n c hc m w a hi hs =>
  wpIn_seq (wpIn_mono (h n c hc m w a hi hs) fun e a' w' ⟨a0, ha, m1, S1, h1, h2, h3⟩ => by
    subst ha
    cases e with
    | normal => exact h3 n c hc m1 w' a0 h1 h2
    | _ => exact ⟨a0, rfl, m1, S1, h1, h2, h3⟩)
theorem AWF.block {id : Nat} {x : Code} (h : AWF ρ D kp P N x (blockQ id Q) S) : AWF ρ D kp P N (.block id x) Q S := fun n c hc m w a hi hs =>
  wpIn_block (wpIn_mono (h n c hc m w a hi hs) fun e a' w' ⟨a0, ha, m1, S1, h1, h2, h3⟩ => by
    subst ha
    cases e with
    | exit id' =>
      simp only [Exit.inBlock, blockQ] at h3 ⊢
      split
      · rename_i e; rw [if_pos e] at h3; exact ⟨a0, rfl, m1, S1, h1, h2, h3⟩
      · rename_i e; rw [if_neg e] at h3; exact ⟨a0, rfl, m1, S1, h1, h2, h3⟩
    | _ => exact ⟨a0, rfl, m1, S1, h1, h2, h3⟩)
theorem AWF.exit {id : Nat} (h : Q (.exit id) S) : AWF ρ D kp P N (.exit id) Q S := fun n c hc m w a hi hs => wpIn_exit ⟨a, rfl, m, S, hi, hs, h⟩
theorem AWF.ret (h : Q .ret S) : AWF ρ D kp P N .ret Q S := fun n c hc m w a hi hs => wpIn_ret ⟨a, rfl, m, S, hi, hs, h⟩
theorem AWF.skip (h : Q .normal S) : AWF ρ D kp P N .skip Q S := fun n c hc m w a hi hs => wpIn_skip ⟨a, rfl, m, S, hi, hs, h⟩
theorem AWF.condT {cd : Operand} {x y : Code} {b : Bool} (hc : ev S.s cd = .t (.bool b)) (hb : b = true) (ht : AWF ρ D kp P N x Q S) : AWF ρ D kp P N (.cond cd x y) Q S := fun n c hk m w a hi hs =>
  wpIn_cond_true (by rw [more_eval]; have := hs.ev cd; rw [hc] at this; rw [← hb]; exact this.bool_inv) (ht n c hk m w a hi hs)
theorem AWF.condF {cd : Operand} {x y : Code} {b : Bool} (hc : ev S.s cd = .t (.bool b)) (hb : b = false) (ht : AWF ρ D kp P N y Q S) : AWF ρ D kp P N (.cond cd x y) Q S := fun n c hk m w a hi hs =>
  wpIn_cond_false (by rw [more_eval]; have := hs.ev cd; rw [hc] at this; rw [← hb]; exact this.bool_inv) (ht n c hk m w a hi hs)
theorem AWF.weak {code : Code} {S' : AS} (hw : Weak kp N S S') (h : AWF ρ D kp P N code Q S') : AWF ρ D kp P N code Q S := fun n c hc m w a hi hs =>
  let ⟨m', h1, h2⟩ := hw c hc m w a hi hs; h n c hc m' w a h1 h2
theorem AWF.greg {E : Env} {q : List TypeId} (hX : XOk P E q) {gl : GCalls} (hcl : GClOk P gl) (keep : List Nat) {id : Nat} {l : List Oper} {S' : AS} (hd : noDefer l = true)
    (h : gopsP E q gl N keep l S = some S') (hQ : Q .normal S') : AWF ρ D kp P N (.region id l.toArray false) Q S := by
  unfold gopsP at h
  split at h
  · rename_i S1 h1
    cases h
    intro n c hc m w a hi hs
    refine wpIn_region_list ?_
    have e1 : l.toArray.toList = l ++ [] := by simp
    rw [e1]
    refine wpListIn_pre (T := fun _ => False) (t0 := #[]) l a w hd (fun i hi => hi.elim) (fun i hi => hi.elim) ?_
    exact gops_ok hX hcl _ S S1 m w a (by simpa using h1) hi hs fun m' w' a' h1 h2 _ => ⟨a', rfl, m', ⟨Fw.prune keep S1.s, S1.H⟩, h1, h2.prune keep, hQ⟩
  · cases h
end

theorem AWF.run0 {ρ : Option Nat} {kp : Nat} {P : Program} {N : Nat} {Q : Exit → AS → Prop} {S : AS} {code : Code} (h : AWF ρ [] kp P N code Q S) {n : Nat} {c : Ctx} (hc : c.k = kp) {m : Mem} {w : World} {a : Act} (hi : Inv c m w S.H) (hs : RelS m N a S.s) :
    code.wpIn (wideAt ρ) n P (APost c N Q) a w := by
  have := h n c hc m w a hi hs
  rw [more_nil] at this
  exact wpIn_mono this fun e a' w' ⟨a0, ha, h1⟩ => by rw [more_nil] at ha; rw [ha]; exact h1

/-! ### A part of the walk, as a call: its own context, its first blocks kept. -/
def ctxK (w : World) (m : Mem) (HB : List Blk) (k : Nat) : Ctx := ⟨w, lent m HB, m.M, k, m.η⟩

theorem inv_ctxK {c : Ctx} {m : Mem} {w : World} {HB : List Blk} {k : Nat} (h : Inv c m w HB) (hk : k ≤ HB.length) : Inv (ctxK w m HB k) m w HB where
  len := h.len
  imm := h.imm
  le := .refl _
  new := fun b o hb => .inl hb
  ok := h.ok
  own := fun i B b h1 h2 h3 => .inr ⟨i, B, h1, h2, h3⟩
  disj := h.disj
  os := rfl
  tape := rfl
  output := rfl
  size := Nat.le_refl _
  frame := fun b _ _ => rfl
  keep := fun i hi => ⟨by rw [h.len]; exact Nat.lt_of_lt_of_le hi hk, rfl⟩

theorem inv_comp {c : Ctx} {m m' : Mem} {w w' : World} {HB H' : List Blk} {k : Nat} (h : Inv c m w HB) (hc : c.k ≤ k) (h' : Inv (ctxK w m HB k) m' w' H') : Inv c m' w' H' where
  len := h'.len
  imm := h'.imm
  le := h.le.trans h'.le
  new := fun b o hb => by
    rcases h'.new b o hb with h1 | h1 | ⟨i, B, h1, h2, h3⟩
    · exact h.new b o h1
    · exact .inr (.inl (Nat.le_trans h.size h1))
    · exact .inr (h.own i B b h1 h2 h3)
  ok := h'.ok
  own := fun i B b h1 h2 h3 => by
    rcases h'.own i B b h1 h2 h3 with h4 | ⟨i, B, h1, h2, h3⟩
    · exact .inl (Nat.le_trans h.size h4)
    · exact h.own i B b h1 h2 h3
  disj := h'.disj
  os := h'.os.trans h.os
  tape := h'.tape.trans h.tape
  output := h'.output.trans h.output
  size := Nat.le_trans h.size h'.size
  frame := fun b hb ho => by
    refine (h'.frame b (Nat.lt_of_lt_of_le hb h.size) fun ⟨i, B, h1, h2, h3⟩ => ?_).trans (h.frame b hb ho)
    rcases h.own i B b h1 h2 h3 with h4 | h4
    · omega
    · exact ho h4
  keep := fun i hi => by
    obtain ⟨h1, h2⟩ := h'.keep i (Nat.lt_of_lt_of_le hi hc)
    exact ⟨h1, h2.trans (h.keep i hi).2⟩

/-- What is no cells lies as it lay. -/
theorem kept_obj {c : Ctx} {m m' : Mem} {w w' : World} {HB H' : List Blk} {k b : Nat} {o : Obj} (h : Inv c m w HB) (h' : Inv (ctxK w m HB k) m' w' H') (hb : w.heap[b]? = some o) (ho : o.isCells = false) (hM : m.M b = none) :
    w'.heap[b]? = some o ∧ m'.M b = none := by
  have hlt := lt_of_heap hb
  have hno : ¬ lent m HB b := fun ⟨i, B, h1, h2, h3⟩ => by
    have hok := h.ok i B h1
    generalize m.η i = hd at *
    cases B with
    | «by» l =>
      rcases hok with ⟨rfl, _⟩ | ⟨b', cap, cur, e, rfl, hh, _⟩
      · simp [blk] at h3
      · simp [blk] at h3; subst h3; rw [hh] at hb; cases hb; cases ho
    | sq sz xs =>
      rcases hok with ⟨_, ⟨rfl, _⟩ | ⟨b', cap, cur, e, rfl, hh, _⟩⟩
      · simp [blk] at h3
      · simp [blk] at h3; subst h3; rw [hh] at hb; cases hb; cases ho
    | bx v =>
      obtain ⟨b', cur, e, rfl, hh, _⟩ := hok
      simp [blk] at h3; subst h3; rw [hh] at hb; cases hb; cases ho
    | fz x => cases h2
    | fb x => cases h2
    | no => cases h2
  refine ⟨(h'.frame b hlt hno).trans hb, ?_⟩
  cases hx : m'.M b with
  | none => rfl
  | some y =>
    rcases h'.new b y hx with h1 | h1 | h1
    · have : m.M b = some y := h1
      rw [hM] at this; cases this
    · exact absurd h1 (by show ¬ w.heap.size ≤ b; omega)
    · exact (hno h1).elim

/-- A block that is no cells is laid, or turned. -/
theorem inv_alloc {c : Ctx} {m : Mem} {w : World} {H : List Blk} (h : Inv c m w H) (o : Obj) : Inv c m (w.alloc o) H := by
  have hold : ∀ b x, w.heap[b]? = some x → (w.alloc o).heap[b]? = some x := fun b x hb => (Below.heap_alloc w o b (lt_of_heap hb)).trans hb
  exact {
    len := h.len
    imm := fun b x hb => hold b x (h.imm b x hb)
    le := h.le
    new := h.new
    ok := fun i B hi => (h.ok i B hi).move (.refl m) (fun b hl hb => ((h.ok i B hi).at hl hb).1) (fun b hl hb => by
      obtain ⟨_, hlt⟩ := (h.ok i B hi).at hl hb
      exact Below.heap_alloc w o b hlt)
    own := h.own
    disj := h.disj
    os := h.os
    tape := h.tape
    output := h.output
    size := Nat.le_trans h.size (by rw [World.size_alloc]; exact Nat.le_succ _)
    frame := fun b hb ho => (Below.heap_alloc w o b (Nat.lt_of_lt_of_le hb h.size)).trans (h.frame b hb ho)
    keep := h.keep }
theorem inv_putObj {c : Ctx} {m : Mem} {w : World} {H : List Blk} (h : Inv c m w H) {r : Nat} {o : Obj} (o' : Obj) (hr : w.heap[r]? = some o) (ho : o.isCells = false) (hM : m.M r = none) (hc : c.w0.heap.size ≤ r) : Inv c m (w.putObj r o') H := by
  have hne : ∀ i B b, H[i]? = some B → B.live = true → blk (m.η i) = some b → b ≠ r := by
    intro i B b hi hl hb e
    subst e
    have hok := h.ok i B hi
    generalize m.η i = hd at *
    cases B with
    | «by» l =>
      rcases hok with ⟨rfl, _⟩ | ⟨b', cap, cur, e, rfl, hh, _⟩
      · simp [blk] at hb
      · simp [blk] at hb; subst hb; rw [hh] at hr; cases hr; cases ho
    | sq sz xs =>
      rcases hok with ⟨_, ⟨rfl, _⟩ | ⟨b', cap, cur, e, rfl, hh, _⟩⟩
      · simp [blk] at hb
      · simp [blk] at hb; subst hb; rw [hh] at hr; cases hr; cases ho
    | bx v =>
      obtain ⟨b', cur, e, rfl, hh, _⟩ := hok
      simp [blk] at hb; subst hb; rw [hh] at hr; cases hr; cases ho
    | fz x => cases hl
    | fb x => cases hl
    | no => cases hl
  exact {
    len := h.len
    imm := fun b x hb => (World.putObj_heap_other (fun e => by subst e; rw [hM] at hb; cases hb)).trans (h.imm b x hb)
    le := h.le
    new := h.new
    ok := fun i B hi => (h.ok i B hi).move (.refl m) (fun b hl hb => ((h.ok i B hi).at hl hb).1) (fun b hl hb => World.putObj_heap_other (hne i B b hi hl hb))
    own := h.own
    disj := h.disj
    os := h.os
    tape := h.tape
    output := h.output
    size := Nat.le_trans h.size (by rw [World.putObj_size]; exact Nat.le_refl _)
    frame := fun b hb hO => (World.putObj_heap_other (by omega)).trans (h.frame b hb hO)
    keep := h.keep }

end Go.Fw

end

section
/- A range over a function: the function that holds one; the loop's record beside the abstract memory. -/
namespace Go.Fw
set_option linter.unusedVariables false
set_option linter.unusedSimpArgs false
open Go Go.RowKit

/-- What a contract asks of a function's end. -/
def Rg (c : Ctx) (H : List Blk) (r : AV) : Ending → World → Prop := fun e w' => ∃ m' v, e = .returned v ∧ MLe c.M0 m'.M ∧ Inv c m' w' H ∧ RelA m' r v

def AWM (kp : Nat) (P : Program) (N : Nat) (code : Code) (K : Ctx → Exit → Act → World → Prop) (S : AS) : Prop :=
  ∀ (c : Ctx), c.k = kp → ∀ (m : Mem) (w : World) (a : Act), Inv c m w S.H → RelS m N a S.s → code.wpIn Fence.wide 0 P (K c) a w

section
variable {kp : Nat} {P : Program} {N : Nat} {K : Ctx → Exit → Act → World → Prop} {S : AS}

def seqM (kp : Nat) (P : Program) (N : Nat) (y : Code) (K : Ctx → Exit → Act → World → Prop) : Exit → AS → Prop
  | .normal, S => AWM kp P N y K S
  | e, S => ∀ (c : Ctx), c.k = kp → ∀ (m : Mem) (w : World) (a : Act), Inv c m w S.H → RelS m N a S.s → K c e a w
theorem AWM.seq {x y : Code} (h : AWP kp P N x (seqM kp P N y K) S) : AWM kp P N (.seq x y) K S := fun c hc m w a hi hs =>
  wpIn_seq (wpIn_mono (wpIn_wide.2 (h c hc m w a hi hs)) fun e a' w' ⟨m1, S1, h1, h2, h3⟩ => by
    cases e with
    | normal => exact h3 c hc m1 w' a' h1 h2
    | _ => exact h3 c hc m1 w' a' h1 h2)
/-- A part that is walked by itself, in the midst. -/
def seqZ (kp : Nat) (P : Program) (N : Nat) (z y : Code) (K : Ctx → Exit → Act → World → Prop) : Exit → AS → Prop
  | .normal, S => ∀ (c : Ctx), c.k = kp → ∀ (m : Mem) (w : World) (a : Act), Inv c m w S.H → RelS m N a S.s → z.wpIn Fence.wide 0 P (Exit.then (y.wpIn Fence.wide 0 P (K c)) (K c)) a w
  | e, S => ∀ (c : Ctx), c.k = kp → ∀ (m : Mem) (w : World) (a : Act), Inv c m w S.H → RelS m N a S.s → K c e a w
theorem AWM.seq2 {x z y : Code} (h : AWP kp P N x (seqZ kp P N z y K) S) : AWM kp P N (.seq (.seq x z) y) K S := fun c hc m w a hi hs =>
  wpIn_seq (wpIn_seq (wpIn_mono (wpIn_wide.2 (h c hc m w a hi hs)) fun e a' w' ⟨m1, S1, h1, h2, h3⟩ => by
    cases e with
    | normal => exact h3 c hc m1 w' a' h1 h2
    | _ => exact h3 c hc m1 w' a' h1 h2))
theorem AWM.weak {code : Code} {S' : AS} (hw : Weak kp N S S') (h : AWM kp P N code K S') : AWM kp P N code K S := fun c hc m w a hi hs =>
  let ⟨m', h1, h2⟩ := hw c hc m w a hi hs; h c hc m' w a h1 h2
end

/-- The end's value, out of an abstract state. -/
theorem leave_ok {P : Program} {E : Env} (hE : EnvOk P E) {fn : Func} {rs : List RS} (hres : fn.results.toList = rs.map RS.var) {c : Ctx} {m : Mem} {w : World} {a : Act} {N : Nat} {S : AS} {H : List Blk} {r : AV} {e : Exit}
    (hi : Inv c m w S.H) (hs : RelS m N a S.s) (hq : cretQ E rs c.k H r e S) : ∃ v, (results fn a.tmps).run P w = .ok v w ∧ Rg c H r (.returned v) w := by
  obtain ⟨_, fz, ids, hnd, hcr⟩ := hq
  obtain ⟨rv, hrv, hH, hr⟩ : ∃ rv, resVals E (freezeOnes S.H fz) S.s rs = some rv ∧ renH ids (freezeOnes S.H fz) = H ∧ (one rv).ren ids = r := by
    unfold cres at hcr
    split at hcr
    · rename_i rv hrv; cases hcr; exact ⟨rv, hrv, rfl, rfl⟩
    · cases hcr
  obtain ⟨m', e1, h1'⟩ := freezeOnes_ok fz m S.H hi
  have h2' := hs.mono e1
  obtain ⟨u, hresrun, hvals⟩ := results_run hE h1' h2' hres hrv
  have h4 := h1'.ren ids hnd.1 hnd.get
  exact ⟨_, hresrun, _, _, rfl, h4.le, by rw [← hH]; exact h4, by rw [← hr]; exact hvals.ren ids⟩

/-- A return ahead of the loop. -/
theorem ret_early {P : Program} {E : Env} (hE : EnvOk P E) {fn : Func} {rs : List RS} (hres : fn.results.toList = rs.map RS.var) {kp N : Nat} {y : Code} {S : AS} {H : List Blk} {r : AV} (hq : cretQ E rs kp H r .ret S) :
    seqM kp P N y (fun c => bodyPostM Fence.wide 0 P fn (Rg c H r)) .ret S := by
  intro c hc m w a hi hs
  show LeavesInM Fence.wide 0 P fn a.tmps (Rg c H r) a.defers .returning w
  rw [hs.1]
  exact leave_ok hE hres hi hs (by rw [hc]; exact hq)

/-- A return behind the loop: the mark is taken over. -/
theorem ret_mark {P : Program} {E : Env} (hE : EnvOk P E) {fn : Func} {rs : List RS} (hres : fn.results.toList = rs.map RS.var) {c : Ctx} {m : Mem} {w : World} {a : Act} {N D : Nat} {S : AS} {H : List Blk} {r : AV}
    (hi : Inv c m w S.H) (hs : RelS m N a S.s) (hq : cretQ E rs c.k H r .ret S) (hD : w.heap[D]? = some (.deferred (some []))) (hM : m.M D = none) (hc : c.w0.heap.size ≤ D) :
    bodyPostM Fence.wide 0 P fn (Rg c H r) .ret (Act.more a [{ target := .collected D, args := #[] }]) w := by
  show LeavesInM Fence.wide 0 P fn a.tmps (Rg c H r) (a.defers ++ [{ target := .collected D, args := #[] }]) .returning w
  rw [hs.1, List.nil_append]
  refine ⟨by simp, .inl ⟨D, w.putObj D (.deferred none), rfl, run_takeDeferred hD, ?_⟩⟩
  exact leave_ok hE hres (inv_putObj hi (.deferred none) hD rfl hM hc) hs hq

/-- A contract out of such a walk. -/
theorem gconcM {P : Program} {E : Env} (hE : EnvOk P E) {f : FuncId} {fn : Func} {code : Code} {N np : Nat} {rs : List RS} (hfn : P.funcs[f]? = some fn) (hb : fn.body = some code) (hN : fn.ntmps = N)
    (hname : (fn.name == "runtime.NumGoroutine") = false) (hres : fn.results.toList = rs.map RS.var) (hnp : np ≤ N) (G : GFun) (hG : ∀ HB xs, xs.length ≠ np → G HB xs = none)
    (main : ∀ HB xs H r, G HB xs = some (H, r) → (∀ x ∈ xs, x.wf) → (∃ c m w, Inv c m w HB) → AWM HB.length P N code (fun c => bodyPostM Fence.wide 0 P fn (Rg c H r)) ⟨gentry 0 xs, HB⟩) : GCon P f G := by
  refine ⟨⟨fn, hfn, hname, by rw [hb]; rfl⟩, fun HB xs H r hGx m w vs hinv hlen hrel => ?_⟩
  have hxs : xs.length = np := by
    rcases Nat.decEq xs.length np with h | h
    · rw [hG HB xs h] at hGx; cases hGx
    · exact h
  refine (callsIn_wide (n := 0)).1 (callsIn_of_wp_marks hfn hb trivial ?_)
  have hwf : ∀ x ∈ xs, x.wf := fun x hx => by
    obtain ⟨i, hi⟩ := List.getElem?_of_mem hx
    obtain ⟨u, _, hu⟩ := hrel i x hi
    exact hu.wf
  have hentry : ∀ (xs : List AV) (k i : Nat), lk i (gentry k xs) = (if h : k ≤ i ∧ i - k < xs.length then (xs[i - k]'h.2) else .any) := by
    intro xs
    induction xs with
    | nil => intro k i; simp [gentry, lk]
    | cons x xs ih =>
      intro k i
      simp only [gentry, lk]
      split
      · rename_i e; subst e; simp
      · rename_i e
        rw [ih (k + 1) i]
        by_cases hk : k + 1 ≤ i ∧ i - (k + 1) < xs.length
        · rw [dif_pos hk, dif_pos ⟨by omega, by simp; omega⟩]
          have : i - k = (i - (k + 1)) + 1 := by omega
          simp only [this, List.getElem_cons_succ]
        · rw [dif_neg hk, dif_neg (by simp; omega)]
  have rel0 : RelS m N { tmps := vs.toArray ++ Array.replicate (fn.ntmps - vs.toArray.size) undef, defers := [] } (gentry 0 xs) := by
    refine ⟨rfl, by simp; omega, fun i => ?_⟩
    rw [hentry xs 0 i]
    split
    · rename_i h
      simp only [Nat.sub_zero] at h ⊢
      obtain ⟨u, h1, h2⟩ := hrel i _ (List.getElem?_eq_getElem h.2)
      have hlt := (List.getElem?_eq_some_iff.1 h1).1
      have : (vs.toArray ++ Array.replicate (fn.ntmps - vs.toArray.size) undef).getD i undef = u := by
        rw [Array.getD_eq_getD_getElem?, Array.getElem?_append_left (by simpa using hlt)]
        simp [h1]
      rw [this]; exact h2
    · exact .any
  exact main HB xs H r hGx hwf ⟨_, _, _, hinv⟩ (ctxL w m HB) rfl m w _ hinv rel0

/-! ### The loop's record beside the abstract memory. -/

/-- The abstract memory, its first k' blocks those of m0; the record l, the block D. -/
structure Jk (c : Ctx) (m0 : Mem) (k l D : Nat) (rec : Loop) (H : List Blk) (m : Mem) (W : World) : Prop where
  inv : Inv c m W H
  M : MLe m0.M m.M
  η : ∀ i, i < k → i < m.n ∧ m.η i = m0.η i
  rl : W.heap[l]? = some (.loop rec)
  dl : W.heap[D]? = some (.deferred (some []))
  Ml : m.M l = none
  MD : m.M D = none

theorem Jk.next {c : Ctx} {m0 m m' : Mem} {k l D : Nat} {rec : Loop} {H H' : List Blk} {W W' : World} (h : Jk c m0 k l D rec H m W) (hc : c.k ≤ k) (h' : Inv (ctxK W m H k) m' W' H') : Jk c m0 k l D rec H' m' W' := by
  obtain ⟨r1, r2⟩ := kept_obj h.inv h' h.rl rfl h.Ml
  obtain ⟨d1, d2⟩ := kept_obj h.inv h' h.dl rfl h.MD
  exact ⟨inv_comp h.inv hc h', h.M.trans h'.le, fun i hi => ⟨(h'.keep i hi).1, (h'.keep i hi).2.trans (h.η i hi).2⟩, r1, d1, r2, d2⟩
theorem Jk.put {c : Ctx} {m0 m : Mem} {k l D : Nat} {rec : Loop} {H : List Blk} {W : World} (h : Jk c m0 k l D rec H m W) (hl : c.w0.heap.size ≤ l) (hD : l ≠ D) (rec' : Loop) : Jk c m0 k l D rec' H m (W.putObj l (.loop rec')) :=
  ⟨inv_putObj h.inv _ h.rl rfl h.Ml hl, h.M, h.η, World.putObj_heap_same (lt_of_heap h.rl), (World.putObj_heap_other (Ne.symm hD)).trans h.dl, h.Ml, h.MD⟩

/-- Values that two memories with the same first blocks tell alike. -/
def lowV (k : Nat) : AV → Prop
  | .any => True
  | .t (.int _ _) => True
  | .t (.bool _) => True
  | .ptr i _ _ => i < k
  | _ => False
theorem RelA.low {m m' : Mem} {k : Nat} (hη : ∀ i, i < k → i < m'.n ∧ m'.η i = m.η i) {x : AV} {v : Value} (hx : lowV k x) (h : RelA m x v) : RelA m' x v := by
  cases x with
  | any => exact .any
  | t y =>
    cases y with
    | int kk n => have := h.int_inv; rw [this.1]; exact .t (.int this.2)
    | bool b => have := h.bool_inv; rw [this]; exact .t .bool
    | _ => exact hx.elim
  | ptr i off p =>
    obtain ⟨b, rfl, h1, h2⟩ := h.ptr_inv
    obtain ⟨h3, h4⟩ := hη i hx
    exact .ptr h3 (by rw [h4]; exact h2)
  | _ => exact hx.elim
theorem RelS.low {m m' : Mem} {k N : Nat} {a : Act} {s : Slots} (hη : ∀ i, i < k → i < m'.n ∧ m'.η i = m.η i) (hs : ∀ i, lowV k (lk i s)) (h : RelS m N a s) : RelS m' N a s :=
  ⟨h.1, h.2.1, fun i => RelA.low hη (hs i) (h.2.2 i)⟩

/-- A region under no round, and a temporary that it does not write. -/
theorem reg_step {E : Env} {q : List TypeId} {P : Program} (hX : XOk P E q) {gl : GCalls} (hcl : GClOk P gl) {N id : Nat} {l : List Oper} {S S1 : AS} (hd : noDefer l = true) (h : gops E q gl N l l S = some S1) {c : Ctx} {m : Mem} {w : World} {a : Act}
    (hi : Inv c m w S.H) (hs : RelS m N a S.s) (T : Nat → Prop) (hT : ∀ i, T i → ∀ o ∈ l, o.dst ≠ some i) {Q : Exit → Act → World → Prop} {n : Nat} (hK : ∀ m' w' a', Inv c m' w' S1.H → RelS m' N a' S1.s → (∀ i, T i → a'.tmps.getD i undef = a.tmps.getD i undef) → Q .normal a' w') :
    (Code.region id l.toArray false).wpIn Fence.wide n P Q a w := by
  refine wpIn_region_list ?_
  have e1 : l.toArray.toList = l ++ [] := by simp
  rw [e1]
  have := wpListIn_pre (ρ := none) (n := n) (P := P) (ops := l.toArray) (Q := Q) (D := []) (rest := []) (T := T) (t0 := a.tmps) l a w hd hT (fun i _ => rfl)
    (gops_ok hX hcl _ S S1 m w a (by simpa using h) hi hs fun m' w' a' h1 h2 h3 => by rw [more_nil]; exact hK m' w' a' h1 h2 h3)
  rwa [more_nil] at this

/-- The beginning of a region's operations. -/
theorem reg_pre {E : Env} {q : List TypeId} {P : Program} (hX : XOk P E q) {gl : GCalls} (hcl : GClOk P gl) {N : Nat} {ops pre rest : List Oper} {S S1 : AS} (hd : noDefer pre = true) (h : gops E q gl N ops pre S = some S1) {c : Ctx} {m : Mem} {w : World} {a : Act}
    (hi : Inv c m w S.H) (hs : RelS m N a S.s) (T : Nat → Prop) (hT : ∀ i, T i → ∀ o ∈ pre, o.dst ≠ some i) {Q : Exit → Act → World → Prop} {n : Nat} (hK : ∀ m' w' a', Inv c m' w' S1.H → RelS m' N a' S1.s → (∀ i, T i → a'.tmps.getD i undef = a.tmps.getD i undef) → wpListIn Fence.wide n P ops.toArray Q rest a' w') :
    wpListIn Fence.wide n P ops.toArray Q (pre ++ rest) a w := by
  have := wpListIn_pre (ρ := none) (n := n) (P := P) (ops := ops.toArray) (Q := Q) (D := []) (rest := rest) (T := T) (t0 := a.tmps) pre a w hd hT (fun i _ => rfl)
    (gops_ok hX hcl _ S S1 m w a (by simpa using h) hi hs fun m' w' a' h1 h2 h3 => by rw [more_nil]; exact hK m' w' a' h1 h2 h3)
  rwa [more_nil] at this

end Go.Fw

end

section
/- view: what was spent, from its end on: slices.Backward's loop. -/
namespace Go.Fw
open Go Go.Proofs Go.RowKit
set_option linter.unusedVariables false
set_option linter.unusedSimpArgs false

def cntA (a : Act) : Nat := match a.tmps.getD 3 undef with
  | .int _ z => (z + 1).toNat
  | _ => 0

set_option maxRecDepth 8000 in
set_option maxHeartbeats 4000000 in
theorem back_in {c : Ctx} {m0 : Mem} {k j bj l D : Nat} {rec : Loop} {Hs : Nat → List Blk} (X : List TCoin) (hX : X.length ≤ 1000000)
    (hj : j < k) (hck : c.k ≤ k) (hH : ∀ i, k ≤ (Hs i).length) (hHj : ∀ i, (Hs i)[j]? = some (.bx (.t (.sq 37 (X.map coinT)))))
    (hbj : blk (m0.η j) = some bj) (Jx : World → Prop) (Gi : Nat → Prop) (hG0 : Gi 0)
    (hY : ∀ i, i < X.length → Gi i → ∀ m wd, Jk c m0 k l D rec (Hs i) m wd → ∀ v, RelT m.M (coinT (X.getD (X.length - 1 - i) dCoin)) v →
      ∃ fn tmps assign body, (Instr.yield l #[.int .i64 ((X.length - 1 - i : Nat) : Int), v]).run Try.prog wd = .ok (.round l fn tmps assign body) wd ∧
        RoundIn Fence.wide 0 Try.prog l fn tmps assign body wd fun e wd' => (e = .returned (.bool true) ∧ Gi (i + 1) ∧ ∃ m', Jk c m0 k l D rec (Hs (i + 1)) m' wd') ∨ (e = .returned (.bool false) ∧ Jx wd'))
    {m : Mem} {wd : World} (h0 : Jk c m0 k l D rec (Hs 0) m wd) :
    CallsIn Fence.wide 0 Try.prog 59 #[.func (.yield l) #[] #[], .pointer (some ⟨bj, 0, none⟩)] wd fun e wd' => (∃ v, e = .returned v) ∧ ((Gi X.length ∧ ∃ m', Jk c m0 k l D rec (Hs X.length) m' wd') ∨ Jx wd') := by
  refine callsIn_of_wp (F := Fence.wide) (n := 0) Try.func59 rfl trivial ?_
  obtain ⟨a0, ha0⟩ : ∃ a0 : Act, a0 = { tmps := #[.func (.yield l) #[] #[], .pointer (some ⟨bj, 0, none⟩)] ++ Array.replicate (Try.f59.ntmps - 2) undef, defers := [] } := ⟨_, rfl⟩
  have hs0 : RelS m 19 a0 [(1, .ptr j 0 [])] := by
    subst ha0
    refine ⟨rfl, rfl, fun i => ?_⟩
    by_cases h1 : i = 1
    · subst h1
      exact .ptr (h0.η j hj).1 (by rw [(h0.η j hj).2]; exact hbj)
    · have : lk i [(1, AV.ptr j 0 [])] = .any := by simp [lk, h1]
      rw [this]
      exact .any
  have hy0 : a0.tmps.getD 0 undef = .func (.yield l) #[] #[] := by subst ha0; rfl
  show Code.wpIn _ _ _ _ _ _ _
  have hgo : ∀ (C : Code) (Q : Exit → Act → World → Prop), C.wpIn Fence.wide 0 Try.prog Q a0 wd → C.wpIn Fence.wide 0 Try.prog Q { tmps := #[.func (.yield l) #[] #[], .pointer (some ⟨bj, 0, none⟩)] ++ Array.replicate (Try.f59.ntmps - 2) undef, defers := [] } wd := by
    intro C Q h; rw [← ha0]; exact h
  refine hgo _ _ ?_
  clear hgo ha0
  have hml : (X.map coinT).length = X.length := List.length_map ..
  have low1 : ∀ i, lowV k (lk i [(1, AV.ptr j 0 [])]) := by
    intro i
    simp only [lk]
    split
    · exact hj
    · trivial
  have low3 : ∀ (z : Int) i, lowV k (lk i [(1, AV.ptr j 0 []), (3, AV.t (.int .i64 z))]) := by
    intro z i
    simp only [lk]
    split
    · exact hj
    · split <;> trivial
  have low4 : ∀ (z : Int) (b : Bool) i, lowV k (lk i [(1, AV.ptr j 0 []), (3, AV.t (.int .i64 z)), (17, AV.t (.bool b))]) := by
    intro z b i
    simp only [lk]
    split
    · exact hj
    · split
      · trivial
      · split <;> trivial
  have hw1 : IntKind.i64.wrap ((X.length : Int) - 1) = (X.length : Int) - 1 := by rw [wrap_i64 (by omega) (by omega)]
  have hHj0 := hHj 0
  refine wpIn_seq ?_
  refine reg_step X_ok (GClOk.nil _) (S := ⟨[(1, .ptr j 0 [])], Hs 0⟩) (c := ctxK wd m (Hs 0) k) rfl (Ev (And.intro hHj0 <| And.intro hml hw1)) (inv_ctxK h0.inv (hH 0)) hs0 (fun i => i = 0) (by intro i hi o ho; subst hi; revert o; decide) (fun m1 w1 a1 i1 r1 k1 => ?_)
  have j1 := h0.next hck i1
  have r1' : RelS m1 19 a1 [(1, .ptr j 0 []), (3, .t (.int .i64 ((X.length : Int) - 1 - ((0 : Nat) : Int))))] := by
    have := r1.prune [1, 3]
    simp only [Fw.prune, List.map_cons, List.map_nil, lk, ↓reduceIte, Nat.reduceEqDiff] at this
    rw [show (X.length : Int) - 1 - ((0 : Nat) : Int) = (X.length : Int) - 1 by omega]
    exact this
  have y1 : a1.tmps.getD 0 undef = .func (.yield l) #[] #[] := (k1 0 rfl).trans hy0
  clear i1 r1 k1 h0 hs0 hy0 hw1
  have val3 : ∀ {m : Mem} {a : Act} {z : Int}, RelS m 19 a [(1, .ptr j 0 []), (3, .t (.int .i64 z))] → cntA a = (z + 1).toNat := by
    intro m a z h
    have h3 := (h.2.2 3).int_inv
    unfold cntA
    rw [h3.1]
  refine wpIn_block ?_
  refine wpIn_loop (fun a wd' => ∃ i m, i ≤ X.length ∧ Gi i ∧ Jk c m0 k l D rec (Hs i) m wd' ∧ RelS m 19 a [(1, .ptr j 0 []), (3, .t (.int .i64 ((X.length : Int) - 1 - (i : Int))))] ∧ a.tmps.getD 0 undef = .func (.yield l) #[] #[]) (fun a _ => cntA a) ⟨0, m1, Nat.zero_le _, hG0, j1, r1', y1⟩ ?_
  clear j1 r1' y1
  rintro a wd' ⟨i, m2, hi, hGi, j2, r2, y2⟩
  have hcnt := val3 r2
  by_cases hlt : i < X.length
  rotate_left
  · obtain rfl : i = X.length := by omega
    have hge : ((0 : Int) ≤ (X.length : Int) - 1 - (X.length : Int)) = False := eq_false (by omega)
    refine wpIn_seq (wpIn_seq ?_)
    refine reg_step X_ok (GClOk.nil _) (S := ⟨[(1, .ptr j 0 []), (3, .t (.int .i64 ((X.length : Int) - 1 - (X.length : Int))))], Hs X.length⟩) (c := ctxK wd' m2 (Hs X.length) k) rfl (Ev hge) (inv_ctxK j2.inv (hH _)) r2 (fun i => i = 0) (by intro i hi o ho; subst hi; revert o; decide) (fun m3 w3 a3 i3 r3 k3 => ?_)
    have j3 := j2.next hck i3
    have e8 : a3.eval (.tmp 8) = .bool false := (r3.2.2 8).bool_inv
    refine wpIn_cond_false e8 (wpIn_exit ?_)
    exact ⟨r3.1, _, results_none rfl _ _ _, ⟨_, rfl⟩, .inl ⟨hGi, m3, j3⟩⟩
  obtain ⟨z, hz⟩ : ∃ z : Nat, z = X.length - 1 - i := ⟨_, rfl⟩
  have hzi : (X.length : Int) - 1 - (i : Int) = (z : Int) := by omega
  rw [hzi] at r2 hcnt
  have hge : ((0 : Int) ≤ (z : Int)) = True := eq_true (by omega)
  have hzl : z < X.length := by omega
  have hzl2 : (z : Int) < (X.length : Int) := by omega
  have hg := coin_getD X z hzl
  rw [coinT_st] at hg
  have hHji := hHj i
  refine wpIn_seq (wpIn_seq ?_)
  refine reg_step X_ok (GClOk.nil _) (S := ⟨[(1, .ptr j 0 []), (3, .t (.int .i64 (z : Int)))], Hs i⟩) (c := ctxK wd' m2 (Hs i) k) rfl (Ev hge) (inv_ctxK j2.inv (hH _)) r2 (fun i => i = 0) (by intro i hi o ho; subst hi; revert o; decide) (fun m3 w3 a3 i3 r3 k3 => ?_)
  have j3 := j2.next hck i3
  have e8 : a3.eval (.tmp 8) = .bool true := (r3.2.2 8).bool_inv
  refine wpIn_cond_true e8 (wpIn_skip ?_)
  have r3' : RelS m3 19 a3 [(1, .ptr j 0 []), (3, .t (.int .i64 (z : Int)))] := by
    have := r3.prune [1, 3]
    simp only [Fw.prune, List.map_cons, List.map_nil, lk, ↓reduceIte, Nat.reduceEqDiff] at this
    exact this
  have y3 : a3.tmps.getD 0 undef = .func (.yield l) #[] #[] := (k3 0 rfl).trans y2
  clear r3 k3 i3 r2 y2 j2 e8 hge
  refine wpIn_seq (wpIn_block (wpIn_seq (wpIn_region_lit ?_)))
  refine wpListIn_plain rfl fun K hK => ⟨fun _ _ => trivial, ?_⟩
  show K (a3.put (some 11) (a3.tmps.getD 0 undef)) w3
  rw [y3]
  refine hK _ _ ?_
  clear hK K
  have r4 : RelS m3 19 (a3.put (some 11) (.func (.yield l) #[] #[])) ((11, .any) :: [(1, .ptr j 0 []), (3, .t (.int .i64 (z : Int)))]) :=
    RelS.puts (o := { dst := some 11, op := .move (.tmp 0), type := 0, pos := "", after := #[], guard := none }) r3' .any rfl
  have y4 : (a3.put (some 11) (.func (.yield l) #[] #[])).tmps.getD 0 undef = .func (.yield l) #[] #[] := (put_tmp _ _ _ 0 (by decide)).trans y3
  have y5 : (a3.put (some 11) (.func (.yield l) #[] #[])).tmps.getD 11 undef = .func (.yield l) #[] #[] := by
    have := r3'.2.1
    simp [Act.put, this]
  generalize a3.put (some 11) (.func (.yield l) #[] #[]) = a4 at *
  refine reg_pre X_ok (GClOk.nil _) (pre := [_, _, _, _, _]) (rest := [_, _]) (S := ⟨(11, .any) :: [(1, .ptr j 0 []), (3, .t (.int .i64 (z : Int)))], Hs i⟩) (c := ctxK w3 m3 (Hs i) k) rfl (Ev (And.intro hHji <| And.intro hml <| And.intro hzl <| And.intro hzl2 hg)) (inv_ctxK j3.inv (hH _)) r4 (fun i => i = 0 ∨ i = 11) (by rintro i (rfl | rfl) o ho <;> (revert o; decide)) (fun m5 w5 a5 i5 r5 k5 => ?_)
  have j5 := j3.next hck i5
  have y6 : a5.tmps.getD 0 undef = .func (.yield l) #[] #[] := (k5 0 (.inl rfl)).trans y4
  have y7 : a5.tmps.getD 11 undef = .func (.yield l) #[] #[] := (k5 11 (.inr rfl)).trans y5
  have e12 := (r5.2.2 12).int_inv
  have e16 := (r5.2.2 16).t_inv
  have r5' : RelS m5 19 a5 [(1, .ptr j 0 []), (3, .t (.int .i64 (z : Int)))] := by
    have := r5.prune [1, 3]
    simp only [Fw.prune, List.map_cons, List.map_nil, lk, ↓reduceIte, Nat.reduceEqDiff] at this
    exact this
  clear r5 k5 i5 y4 y5 r4 j3 r3'
  have hYi := hY i hlt hGi m5 w5 j5
  rw [← hz] at hYi
  obtain ⟨fn, tmps, assign, body, hy, hR⟩ := hYi _ e16
  clear hYi
  refine wpListIn_plain rfl fun K hK => ⟨fun _ _ => trivial, ?_⟩
  have hrun : (execOp a5.eval { dst := some 17, op := Op.call { callee := Callee.value (Operand.tmp 11), args := #[Operand.tmp 12, Operand.tmp 16], argTypes := #[3, 39] }, type := 4, pos := "iter.go:29", after := #[{ on := 0, ground := Ground.data }, { on := 1, ground := Ground.data }, { on := 5, ground := Ground.data }], guard := none }).run Try.prog w5 = .ok (.round l fn tmps assign body) w5 := by
    have ev11 : a5.eval (.tmp 11) = .func (.yield l) #[] #[] := y7
    have ev12 : a5.eval (.tmp 12) = .int .i64 (z : Int) := e12.1
    have ev16 : a5.eval (.tmp 16) = a5.tmps.getD 16 undef := rfl
    simp only [execOp, resolve, List.map_toArray, List.map_cons, List.map_nil, ev11, ev12, ev16, Deferred.ofValue, Sem.run_bind, Sem.run_pure, Result.andThen_ok, invoke]
    have ha : (#[] ++ #[Value.int .i64 (z : Int), a5.tmps.getD 16 undef] ++ #[] : Array Value) = #[.int .i64 (z : Int), a5.tmps.getD 16 undef] := by simp
    first | exact hy | (rw [ha]; exact hy)
  rw [Oper.semAt_eq _ _ _ (by intro c h; cases h), hrun]
  refine ⟨fun hd => by simp [Fence.wide] at hd, ?_⟩
  refine hR.mono fun e w6 he => ?_
  have hsz : 17 < a5.tmps.size := by rw [r5'.2.1]; decide
  have e17 : ∀ b, (a5.put (some 17) (.bool b)).eval (.tmp 17) = .bool b := by
    intro b
    show (a5.tmps.setIfInBounds 17 (.bool b)).getD 17 undef = _
    simp [hsz]
  have hnot : ∀ b, (execOp (a5.put (some 17) (.bool b)).eval { dst := some 18, op := Op.unOp UnOp.not 4 (Operand.tmp 17), type := 4, pos := "iter.go:29", after := #[{ on := 6, ground := Ground.data }], guard := none }).run Try.prog w6 = .ok (.value (.bool (!b))) w6 := by
    intro b
    simp [execOp, e17, Op.unary]
  rcases he with ⟨rfl, hG6, m6, j6⟩ | ⟨rfl, hx⟩
  · show K (a5.put (some 17) (.bool true)) w6
    refine hK _ _ ?_
    clear hK K hR hrun
    refine wpListIn_plain rfl fun K hK => ⟨fun _ _ => trivial, ?_⟩
    rw [Oper.semAt_eq _ _ _ (by intro c h; cases h), hnot]
    show K ((a5.put (some 17) (.bool true)).put (some 18) (.bool false)) w6
    refine hK _ _ (wpListIn_nil ?_)
    have hη : ∀ i, i < k → i < m6.n ∧ m6.η i = m5.η i := fun i hi => ⟨(j6.η i hi).1, (j6.η i hi).2.trans (j5.η i hi).2.symm⟩
    have r6 := RelS.low hη (low3 (z : Int)) r5'
    have r7 : RelS m6 19 ((a5.put (some 17) (.bool true)).put (some 18) (.bool false)) [(1, .ptr j 0 []), (3, .t (.int .i64 (z : Int)))] := by
      refine ⟨r6.1, ?_, fun i => ?_⟩
      · simp only [Act.put, Array.size_setIfInBounds]; exact r6.2.1
      · by_cases h18 : i = 18
        · subst h18; exact .any
        · by_cases h17 : i = 17
          · subst h17; exact .any
          · rw [put_tmp _ _ _ i (by simpa using fun e => h18 e.symm), put_tmp _ _ _ i (by simpa using fun e => h17 e.symm)]
            exact r6.2.2 i
    have y8 : ((a5.put (some 17) (.bool true)).put (some 18) (.bool false)).tmps.getD 0 undef = .func (.yield l) #[] #[] := by
      rw [put_tmp _ _ _ 0 (by decide), put_tmp _ _ _ 0 (by decide)]
      exact y6
    have e18 : ((a5.put (some 17) (.bool true)).put (some 18) (.bool false)).eval (.tmp 18) = .bool false := by
      show ((a5.tmps.setIfInBounds 17 (.bool true)).setIfInBounds 18 (.bool false)).getD 18 undef = _
      have hsz2 : 18 < a5.tmps.size := by rw [r5'.2.1]; decide
      simp [hsz2]
    generalize (a5.put (some 17) (.bool true)).put (some 18) (.bool false) = a7 at *
    refine wpIn_cond_false e18 (wpIn_skip ?_)
    have hw2 : IntKind.i64.wrap ((z : Int) - 1) = (z : Int) - 1 := by rw [wrap_i64 (by omega) (by omega)]
    refine reg_step X_ok (GClOk.nil _) (S := ⟨[(1, .ptr j 0 []), (3, .t (.int .i64 (z : Int)))], Hs (i + 1)⟩) (c := ctxK w6 m6 (Hs (i + 1)) k) rfl (Ev hw2) (inv_ctxK j6.inv (hH _)) r7 (fun i => i = 0) (by intro i hi o ho; subst hi; revert o; decide) (fun m8 w8 a8 i8 r8 k8 => ?_)
    have r8' : RelS m8 19 a8 [(1, .ptr j 0 []), (3, .t (.int .i64 ((z : Int) - 1)))] := by
      have := r8.prune [1, 3]
      simp only [Fw.prune, List.map_cons, List.map_nil, lk, ↓reduceIte, Nat.reduceEqDiff] at this
      exact this
    have hcn := val3 r8'
    refine ⟨⟨i + 1, m8, by omega, hG6, j6.next hck i8, ?_, (k8 0 rfl).trans y8⟩, ?_⟩
    · rw [show (X.length : Int) - 1 - ((i + 1 : Nat) : Int) = (z : Int) - 1 by omega]
      exact r8'
    · rw [hcn, hcnt]; omega
  · show K (a5.put (some 17) (.bool false)) w6
    refine hK _ _ ?_
    refine wpListIn_plain rfl fun K hK => ⟨fun _ _ => trivial, ?_⟩
    rw [Oper.semAt_eq _ _ _ (by intro c h; cases h), hnot]
    show K ((a5.put (some 17) (.bool false)).put (some 18) (.bool true)) w6
    refine hK _ _ (wpListIn_nil ?_)
    have e18 : ((a5.put (some 17) (.bool false)).put (some 18) (.bool true)).eval (.tmp 18) = .bool true := by
      show ((a5.tmps.setIfInBounds 17 (.bool false)).setIfInBounds 18 (.bool true)).getD 18 undef = _
      have hsz2 : 18 < a5.tmps.size := by rw [r5'.2.1]; decide
      simp [hsz2]
    refine wpIn_cond_true e18 (wpIn_ret ?_)
    exact ⟨r5'.1, _, results_none rfl _ _ _, ⟨_, rfl⟩, .inr hx⟩

end Go.Fw

end

section
/- view: a loop over what was spent, from its end on, as a whole. -/
namespace Go.Fw
open Go Go.Proofs Go.RowKit
set_option linter.unusedVariables false
set_option linter.unusedSimpArgs false

set_option maxHeartbeats 4000000 in
theorem rev_tail {assign body y : Code} {N kp k j b g p1 p2 : Nat} {fn : Func} {rs : List RS} (hres : fn.results.toList = rs.map RS.var) {H : List Blk} {r : AV}
    (X : List TCoin) (hXl : X.length ≤ 1000000) {Hs : Nat → List Blk} {Hx : List Blk} {Gi : Nat → Prop} {sL : Slots} {S1 : Nat → AS}
    (hj : j < k) (hkk : kp ≤ k) (hp : p1 ≠ p2) (hp1 : p1 < N) (hp2 : p2 < N) (hp1s : lk p1 sL = .any)
    (hH : ∀ i, k ≤ (Hs i).length) (hHj : ∀ i, (Hs i)[j]? = some (.bx (.t (.sq 37 (X.map coinT))))) (hlow : ∀ i, lowV k (lk i sL)) (hG0 : Gi 0)
    (hA : ∀ l i, i < X.length → Gi i → AWF (some l) [] k Try.prog N assign (fun e S => e = .normal ∧ Weak k N S (S1 i)) ⟨(p2, .t (coinT (X.getD (X.length - 1 - i) dCoin))) :: sL, Hs i⟩)
    (hk1 : ∀ i, k ≤ (S1 i).H.length)
    (hB : ∀ l i, i < X.length → Gi i → AWF (some l) [] k Try.prog N body (fun e S => (e = .normal ∧ Gi (i + 1) ∧ Weak k N S ⟨[], Hs (i + 1)⟩) ∨ (e = .ret ∧ Weak k N S ⟨[], Hx⟩)) (S1 i))
    (hC : ∀ D, Gi X.length → AWF none [{ target := .collected D, args := #[] }] kp Try.prog N y (fun e S => e = .ret ∧ cretQ E rs kp H r .ret S) ⟨sL, Hs X.length⟩)
    (hX : cretQ E rs kp H r .ret ⟨sL, Hx⟩)
    {c : Ctx} (hc : c.k = kp) {m0 : Mem} {w0 : World} {a : Act} (hi0 : Inv c m0 w0 (Hs 0)) (hs0 : RelS m0 N a ((g, .clo 59 [.ptr j 0 []]) :: sL)) (hgs : lk g sL = .any) :
    (Code.block b (Code.rangeFunc (.tmp g) #[p1, p2] assign body)).wpIn Fence.wide 0 Try.prog
      (Exit.then (y.wpIn Fence.wide 0 Try.prog (bodyPostM Fence.wide 0 Try.prog fn (Rg c H r))) (bodyPostM Fence.wide 0 Try.prog fn (Rg c H r))) a w0 := by
  have hck : c.k ≤ k := by omega
  -- the closure's value
  have hg := hs0.2.2 g
  rw [show lk g ((g, AV.clo 59 [.ptr j 0 []]) :: sL) = .clo 59 [.ptr j 0 []] by simp [lk]] at hg
  obtain ⟨bj, hbj, hgv⟩ : ∃ bj, blk (m0.η j) = some bj ∧ a.tmps.getD g undef = .func (.func 59) #[] #[.pointer (some ⟨bj, 0, none⟩)] := by
    generalize a.tmps.getD g undef = v at hg
    generalize hx : AV.clo 59 [.ptr j 0 []] = x at hg
    cases hg <;> cases hx
    rename_i vs ha hr
    obtain ⟨bj, h1, h2, h3⟩ := (hr 0 (.ptr j 0 []) rfl).ptr_inv
    refine ⟨bj, h3, ?_⟩
    rw [fnV_lt (by decide)]
    congr 1
    apply Array.ext
    · simpa using ha
    · intro i hi1 hi2
      obtain rfl : i = 0 := by simp at ha; omega
      rw [Array.getD_eq_getD_getElem?, Array.getElem?_eq_getElem hi1] at h1
      simpa using h1
  have hsL : RelS m0 N a sL := ⟨hs0.1, hs0.2.1, fun i => by
    by_cases e : i = g
    · subst e; rw [hgs]; exact .any
    · have := hs0.2.2 i
      rwa [show lk i ((g, AV.clo 59 [.ptr j 0 []]) :: sL) = lk i sL by simp [lk, e]] at this⟩
  refine wpIn_block (wpIn_rangeFunc fun fnn _ => ?_)
  obtain ⟨rec, hrec⟩ : ∃ rec : LoopState → Option Code → Loop, rec = fun st pe => { state := st, pending := pe, fn := fnn, tmps := a.tmps, params := #[p1, p2], assign, body, defers := w0.heap.size } := ⟨_, rfl⟩
  obtain ⟨w1, hw1⟩ : ∃ w1, (w0.alloc (.deferred (some []))).alloc (.loop (rec .ready none)) = w1 := ⟨_, rfl⟩
  have hL1 : w1.heap[w0.heap.size + 1]? = some (.loop (rec .ready none)) := by
    rw [← hw1]; have := World.alloc_heap_new (w0.alloc (.deferred (some []))) (.loop (rec .ready none)); rwa [World.size_alloc] at this
  have hD1 : w1.heap[w0.heap.size]? = some (.deferred (some [])) := by
    rw [← hw1]; exact (Below.heap_alloc _ _ _ (by simp)).trans (World.alloc_heap_new w0 _)
  have hMn : ∀ q, w0.heap.size ≤ q → m0.M q = none := by
    intro q hq
    cases hx : m0.M q with
    | none => rfl
    | some o =>
      have := lt_of_heap (hi0.imm q o hx)
      omega
  have j1 : Jk c m0 k (w0.heap.size + 1) w0.heap.size (rec .ready none) (Hs 0) m0 w1 :=
    ⟨by rw [← hw1]; exact inv_alloc (inv_alloc hi0 _) _, .refl _, fun i hi => ⟨by rw [hi0.len]; exact Nat.lt_of_lt_of_le hi (hH 0), rfl⟩, hL1, hD1, hMn _ (by omega), hMn _ (Nat.le_refl _)⟩
  have hcl : c.w0.heap.size ≤ w0.heap.size + 1 := Nat.le_succ_of_le hi0.size
  have hcD : c.w0.heap.size ≤ w0.heap.size := hi0.size
  have hnD : w0.heap.size + 1 ≠ w0.heap.size := by omega
  have hen : (Instr.enterLoop fnn a.tmps #[p1, p2] assign body none).run Try.prog w0 = .ok (w0.heap.size + 1, [{ target := .collected w0.heap.size, args := #[] }]) w1 := by
    rw [← hw1, hrec]; exact run_enterLoop_outer _ _ _ _ _
  clear hw1 hMn
  generalize w0.heap.size + 1 = l at *
  generalize hDD : w0.heap.size = D at *
  refine ⟨l, [{ target := .collected D, args := #[] }], w1, { target := .fn (.func 59) #[.pointer (some ⟨bj, 0, none⟩)], args := #[.func (.yield l) #[] #[]] }, w1, 59, #[.func (.yield l) #[] #[], .pointer (some ⟨bj, 0, none⟩)], w1, ?_, ?_, fun _ _ => trivial, ?_, fun hd => by simp [Fence.wide] at hd, ?_⟩
  · exact hen
  · have hev : a.eval (.tmp g) = a.tmps.getD g undef := rfl
    simp only [resolve, hev, hgv]
    simp [go_sem]
  · have he := run_enter (P := Try.prog) Try.func59 (by kernel_rfl) (by kernel_rfl) #[.func (.yield l) #[] #[], .pointer (some ⟨bj, 0, none⟩)] w1
    simp only [invoke]
    exact he
  have hmore : ({ a with defers := [{ target := .collected D, args := #[] }] ++ a.defers } : Act) = Act.more a [{ target := .collected D, args := #[] }] := by
    simp [Act.more, hs0.1]
  have hηm : ∀ {H : List Blk} {m : Mem} {w : World} {rc : Loop}, Jk c m0 k l D rc H m w → RelS m N a sL := fun h => RelS.low h.η hlow hsL
  refine CallsIn.mono (back_in X hXl hj hck hH hHj hbj (fun wd => ∃ m, Jk c m0 k l D (rec .done (some .ret)) Hx m wd) Gi hG0 ?_ j1) ?_
  · intro i hi hGi m wd hjk v hv
    have hy := run_yield (P := Try.prog) (args := #[.int .i64 ((X.length - 1 - i : Nat) : Int), v]) hjk.rl (by rw [hrec]; rfl)
    rw [hrec] at hy
    refine ⟨_, _, _, _, hy, roundIn_of_wpIn trivial ?_⟩
    have hr0 := hηm hjk
    have hr1 : RelS m N (a.put (some p1) (.int .i64 ((X.length - 1 - i : Nat) : Int))) ((p1, .any) :: sL) :=
      RelS.puts (o := { dst := some p1, op := .move (.tmp 0), type := 0, pos := "", after := #[], guard := none }) hr0 .any (if_pos hp1)
    have hr2 : RelS m N ((a.put (some p1) (.int .i64 ((X.length - 1 - i : Nat) : Int))).put (some p2) v) ((p2, .t (coinT (X.getD (X.length - 1 - i) dCoin))) :: (p1, .any) :: sL) :=
      RelS.puts (o := { dst := some p2, op := .move (.tmp 0), type := 0, pos := "", after := #[], guard := none }) hr1 (.t hv) (if_pos hp2)
    have hr3 : RelS m N { tmps := (#[p1, p2].zip #[.int .i64 ((X.length - 1 - i : Nat) : Int), v]).foldl (fun t (p, a) => t.setIfInBounds p a) a.tmps, defers := [] } ((p2, .t (coinT (X.getD (X.length - 1 - i) dCoin))) :: sL) := by
      have hfo : (#[p1, p2].zip #[.int .i64 ((X.length - 1 - i : Nat) : Int), v]).foldl (fun t (p, a) => t.setIfInBounds p a) a.tmps = ((a.put (some p1) (.int .i64 ((X.length - 1 - i : Nat) : Int))).put (some p2) v).tmps := by simp [Act.put]
      rw [hfo]
      refine ⟨rfl, hr2.2.1, fun q => ?_⟩
      have := hr2.2.2 q
      have e : lk q ((p2, AV.t (coinT (X.getD (X.length - 1 - i) dCoin))) :: (p1, .any) :: sL) = lk q ((p2, AV.t (coinT (X.getD (X.length - 1 - i) dCoin))) :: sL) := by
        simp only [lk]
        split
        · rfl
        · split
          · rename_i e; rw [e, hp1s]
          · rfl
      rw [e] at this
      exact this
    show Code.wpIn (wideAt (some l)) _ _ _ _ _ _
    refine wpIn_mono ((hA l i hi hGi).run0 (n := 0) (c := ctxK wd m (Hs i) k) rfl (inv_ctxK hjk.inv (hH i)) hr3) ?_
    rintro e a1 w2 ⟨m2, S2, h1, h2, rfl, hwk⟩
    obtain ⟨m2, h1, h2⟩ := hwk _ rfl m2 w2 a1 h1 h2
    have j2 := hjk.next hck h1
    refine ⟨_, run_beginRound j2.rl (by rw [hrec]), ?_⟩
    have j3 := j2.put hcl hnD { rec .ready none with state := .busy }
    refine wpIn_mono ((hB l i hi hGi).run0 (n := 0) rfl (inv_ctxK j3.inv (hk1 i)) h2) ?_
    rintro e a3 w3 ⟨m3, S3, h3, h4, hq⟩
    rcases hq with ⟨rfl, hG, hw⟩ | ⟨rfl, hw⟩
    · obtain ⟨m4, h5, _⟩ := hw _ rfl m3 w3 a3 h3 h4
      have j4 := j3.next hck h5
      refine ⟨_, _, run_endRound none j4.rl, .inl ⟨rfl, hG, m4, ?_⟩⟩
      have j5 := j4.put hcl hnD (rec .ready none)
      rw [hrec] at j5 ⊢
      exact j5
    · obtain ⟨m4, h5, _⟩ := hw _ rfl m3 w3 a3 h3 h4
      have j4 := j3.next hck h5
      refine ⟨_, _, run_endRound (some .ret) j4.rl, .inr ⟨rfl, m4, ?_⟩⟩
      have j5 := j4.put hcl hnD (rec .done (some .ret))
      rw [hrec] at j5 ⊢
      exact j5
  · rintro e w2 ⟨⟨v, rfl⟩, (⟨hG, m2, j2⟩ | ⟨m2, j2⟩)⟩
    · refine ⟨none, _, (by have := run_endLoop (P := Try.prog) j2.rl (by rw [hrec]; simp); rw [hrec] at this; exact this), ?_⟩
      have j3 := j2.put hcl hnD { rec .ready none with state := .exhausted }
      rw [hrec] at j3
      show y.wpIn Fence.wide 0 Try.prog _ _ _
      rw [hmore]
      refine wpIn_mono (hC D hG 0 (ctxK _ m2 (Hs X.length) kp) rfl m2 _ a (inv_ctxK j3.inv (Nat.le_trans hkk (hH _))) (hηm j3)) ?_
      rintro e a' w5 ⟨a0, rfl, m5, S5, h5, h6, rfl, hq⟩
      obtain ⟨g1, g2⟩ := kept_obj j3.inv h5 j3.dl rfl j3.MD
      exact ret_mark E_ok hres (inv_comp j3.inv (by omega) h5) h6 (by rw [hc]; exact hq) g1 g2 hcD
    · refine ⟨some .ret, _, (by have := run_endLoop (P := Try.prog) j2.rl (by rw [hrec]; simp); rw [hrec] at this; exact this), ?_⟩
      have j3 := j2.put hcl hnD { rec .done (some .ret) with state := .exhausted }
      rw [hrec] at j3
      refine wpIn_ret ?_
      show bodyPostM _ _ _ _ _ .ret _ _
      rw [hmore]
      exact ret_mark E_ok hres j3.inv (hηm j3) (by rw [hc]; exact hX) j3.dl j3.MD hcD

end Go.Fw

end

section
/- view: a transaction reverted. -/
namespace Go.Fw
open Go Go.Proofs Go.RowKit
set_option linter.unusedVariables false
set_option linter.unusedSimpArgs false

theorem revV_ok {l : List TCoin} (h : lowL l = true) (t : TTx) (nm : H32) (first : Bool) {sp : List TCoin} (hs : lowL sp = true) :
    lowL (revV l t nm first sp).1 = true ∧ (revV l t nm first sp).1.length ≤ l.length + sp.length := by
  obtain ⟨u1, u2⟩ := unmV_ok nm t.outs.length l h
  unfold revV
  split
  · exact ⟨h, by simp⟩
  · split
    · exact ⟨h, by simp⟩
    · split
      · exact ⟨u1, by omega⟩
      · have hr : lowL sp.reverse = true := by unfold lowL at hs ⊢; rw [List.all_reverse]; exact hs
        obtain ⟨a1, a2⟩ := addsV_ok sp.reverse _ u1 hr
        rw [List.length_reverse] at a2
        exact ⟨a1, by omega⟩

/-- The coins behind so many that were added, from the end on. -/
def lsV (L X : List TCoin) : Nat → List TCoin
  | 0 => L
  | i + 1 => (addV (lsV L X i) (X.getD (X.length - 1 - i) dCoin)).1
theorem rev_drop (X : List TCoin) (i : Nat) (hi : i < X.length) : X.reverse.drop i = X.getD (X.length - 1 - i) dCoin :: X.reverse.drop (i + 1) := by
  rw [List.drop_eq_getElem_cons (by rw [List.length_reverse]; exact hi)]
  rw [List.getElem_reverse]
  simp [List.getD_eq_getElem?_getD, List.getElem?_eq_getElem (show X.length - 1 - i < X.length by omega)]

noncomputable def G35 : GFun
  | HB, [.ptr 0 0 [], .t x, .t (.bool first), .t y] => match inv vwH HB, inv txT x, inv coinsT y with
    | some l, some t, some sp => @ite _ ((l.length ≤ 400000 ∧ lowL l = true ∧ sp.length ≤ 10000 ∧ lowL sp = true ∧ t.ins.length ≤ 10000)) (Classical.propDecidable _) ((some (vwN (revV l t (nmH t) first sp).1, .t (.int .i64 (revV l t (nmH t) first sp).2)))) none
    | _, _, _ => none
  | _, _ => none

theorem ct35 : CT [(14, ⟨[true, false], G14⟩), (24, ⟨[true, false], G24⟩), (34, ⟨[false, false], treeG F34⟩), (44, ⟨[false], treeG F44⟩), (46, ⟨[false], treeG F46⟩), (48, ⟨[false, false], treeG F48⟩), (49, ⟨[false, false, false], treeG F49⟩), (50, ⟨[false], treeG F50⟩)] [0, 1, 2, 3, 4, 5, 8, 9, 10, 11, 12, 13, 15, 17, 18, 31, 36, 37, 38, 56, 60, 67] [] := ⟨(.cons g14 (.cons g24 (.cons c34.g (.cons c44.g (.cons c46.g (.cons c48.g (.cons c49.g (.cons c50.g (.nil _)))))))))⟩

set_option maxRecDepth 8000 in
set_option maxHeartbeats 8000000 in
theorem g35 : GCon Try.prog 35 G35 := by
  refine gconcM E_ok (rs := [.cell 8 30]) Try.func35 rfl Try.ntmps35 (by kernel_rfl) rfl (by decide) G35 (np := 4) ?_ ?_
  · intro HB xs h; unfold G35; split <;> first | rfl | (simp at h; done)
  intro HB xs H r hG hwf hex
  
  unfold G35 at hG
  split at hG <;> try (cases hG; done)
  rename_i x first y
  split at hG <;> try (cases hG; done)
  rename_i l t sp hl htx hsp
  split at hG
  case isFalse => cases hG
  rename_i hcc
  cases hG
  obtain ⟨hlen, hlow, hspl, hlows, hti⟩ := hcc
  obtain rfl := inv_inv hl
  obtain rfl := inv_inv htx
  obtain rfl := inv_inv hsp
  have hck := check_c t
  have hnm := name_tc t
  have hmo : (t.outs.map outT).length = t.outs.length := List.length_map ..
  have hin := inputs_c t first (by omega)
  have hil : (insR t first).length ≤ 1000000 := by unfold insR; split <;> simp <;> omega
  have hef := eqf_c sp (insR t first) (by omega) hil
  have hbw := bwd_c sp
  rw [txT_st] at hck hnm ⊢
  simp only [vwH, coinsT, refsT] at hin ⊢
  obtain ⟨R, hR⟩ : ∃ R, revV l t (nmH t) first sp = R := ⟨_, rfl⟩
  rw [hR]
  unfold revV at hR
  show AWM 2 _ _ _ _ _
  refine AWM.seq ?_
  refine St (And.intro @gentry.eq_1 <| @gentry.eq_2) ct35 ?_
  show AWM _ _ _ _ _ _
  refine AWM.seq ?_
  refine St hin ct35 ?_
  show AWM _ _ _ _ _ _
  refine AWM.seq ?_
  refine St hin ct35 ?_
  show AWM _ _ _ _ _ _
  refine AWM.seq ?_
  by_cases hc0 : chkE t = 0
  rotate_left
  · rw [if_pos hc0] at hR
    subst hR
    have hcb : (chkE t != 0) = true := by simpa using hc0
    repeat refine St (And.intro hck <| hcb) ct35 ?_
    refine AWP.weak (Weak.moveBx (v' := _) 0 1 [0] 0 _ rfl rfl rfl (by decide) (by simp only [W, eqq, ↓reduceIte, Nat.reduceEqDiff, Nat.reduceLT, Nat.reduceLeDiff, Nat.reduceAdd, Nat.reduceMul, Nat.reduceSub, Nat.reduceBEq, Int.reduceLE, Int.reduceLT, Int.reduceNeg, Int.reduceToNat, Int.reduceEq, Int.reduceBEq, Int.reduceBNe, Nat.reduceBNe, bne_self_eq_false, reduceCtorEq, gt_iff_lt, ge_iff_le]) (by simp only [W, eqq, ↓reduceIte, Nat.reduceEqDiff, Nat.reduceLT, Nat.reduceLeDiff, Nat.reduceAdd, Nat.reduceMul, Nat.reduceSub, Nat.reduceBEq, Int.reduceLE, Int.reduceLT, Int.reduceNeg, Int.reduceToNat, Int.reduceEq, Int.reduceBEq, Int.reduceBNe, Nat.reduceBNe, bne_self_eq_false, reduceCtorEq, gt_iff_lt, ge_iff_le]) (by simp only [W, eqq, ↓reduceIte, Nat.reduceEqDiff, Nat.reduceLT, Nat.reduceLeDiff, Nat.reduceAdd, Nat.reduceMul, Nat.reduceSub, Nat.reduceBEq, Int.reduceLE, Int.reduceLT, Int.reduceNeg, Int.reduceToNat, Int.reduceEq, Int.reduceBEq, Int.reduceBNe, Nat.reduceBNe, bne_self_eq_false, reduceCtorEq, gt_iff_lt, ge_iff_le]; rfl)) ?_
    refine AWP.ret (ret_early (y := .skip) E_ok (rs := [.cell 8 30]) rfl ?_)
    exact Fin @vwN.eq_def [] [0, 1, 5]
  rw [if_neg (by rw [hc0]; simp)] at hR
  have hcb : (chkE t != 0) = false := by simpa using hc0
  cases heq : eqRefs sp (insR t first) with
  | false =>
    rw [heq] at hR hef
    rw [if_pos rfl] at hR
    subst hR
    repeat refine St (And.intro hck <| And.intro hcb <| hef) ct35 ?_
    refine AWP.weak (Weak.moveBx (v' := _) 0 1 [0] 0 _ rfl rfl rfl (by decide) (by simp only [W, eqq, ↓reduceIte, Nat.reduceEqDiff, Nat.reduceLT, Nat.reduceLeDiff, Nat.reduceAdd, Nat.reduceMul, Nat.reduceSub, Nat.reduceBEq, Int.reduceLE, Int.reduceLT, Int.reduceNeg, Int.reduceToNat, Int.reduceEq, Int.reduceBEq, Int.reduceBNe, Nat.reduceBNe, bne_self_eq_false, reduceCtorEq, gt_iff_lt, ge_iff_le]) (by simp only [W, eqq, ↓reduceIte, Nat.reduceEqDiff, Nat.reduceLT, Nat.reduceLeDiff, Nat.reduceAdd, Nat.reduceMul, Nat.reduceSub, Nat.reduceBEq, Int.reduceLE, Int.reduceLT, Int.reduceNeg, Int.reduceToNat, Int.reduceEq, Int.reduceBEq, Int.reduceBNe, Nat.reduceBNe, bne_self_eq_false, reduceCtorEq, gt_iff_lt, ge_iff_le]) (by simp only [W, eqq, ↓reduceIte, Nat.reduceEqDiff, Nat.reduceLT, Nat.reduceLeDiff, Nat.reduceAdd, Nat.reduceMul, Nat.reduceSub, Nat.reduceBEq, Int.reduceLE, Int.reduceLT, Int.reduceNeg, Int.reduceToNat, Int.reduceEq, Int.reduceBEq, Int.reduceBNe, Nat.reduceBNe, bne_self_eq_false, reduceCtorEq, gt_iff_lt, ge_iff_le]; rfl)) ?_
    refine AWP.ret (ret_early (y := .skip) E_ok (rs := [.cell 8 30]) rfl ?_)
    exact Fin @vwN.eq_def [] [0, 1, 5]
  | true =>
  rw [heq] at hR hef
  rw [if_neg (by simp)] at hR
  repeat refine St (And.intro hck <| And.intro hcb <| hef) ct35 ?_
  show AWM _ _ _ _ _ _
  refine AWM.seq ?_
  refine St hnm ct35 ?_
  show AWM _ _ _ _ _ _
  have hnl : namO t = (nmH t).1 := rfl
  rw [hnl] at hnm ⊢
  obtain ⟨c1, c2, c3, _⟩ : t.ins.length ≤ 20 ∧ t.outs.length ≤ 20 ∧ (∀ x ∈ t.outs, x.scr.length ≤ 1000) ∧ _ := by
    rcases chk_two t with ⟨e1, e2, e3⟩ | ⟨e1, e2⟩
    · exact countsB_ok e2
    · rw [e1] at hc0; cases hc0
  generalize hN : nmH t = N at *
  obtain ⟨U, hU⟩ : ∃ U, unmV N t.outs.length l = U := ⟨_, rfl⟩
  rw [hU] at hR
  have hd0 : ((0 : Int) != 0) = false := rfl
  refine AWM.seq ?_
  refine AWP.weak (Weak.moveBx (v' := _) 0 1 [0] 0 _ rfl rfl rfl (by decide) (by simp only [W, eqq]) (by simp only [W, eqq]) (by simp only [W, eqq]; rfl)) ?_
  repeat refine St hmo ct35 ?_
  refine AWP.loop (G := { x : Nat × List TCoin // x.1 ≤ t.outs.length ∧ x.2.length ≤ 400000 ∧ lowL x.2 = true ∧ unmV N (t.outs.length - x.1) x.2 = U }) (fun x => ⟨[(3, .t (.sq 37 (sp.map coinT))), (4, .ptr 2 0 []), (5, .ptr 3 0 []), (8, .ptr 4 0 []), (11, .ptr 5 0 []), (36, .t (.int .i64 (t.outs.length : Int))), (37, .t (.int .i64 (x.1.1 : Int)))], [.bx (.st [.own 6]), .no, .bx (.ptr 0 0 []), .bx (.t (.st [.int .u32 (t.ver.toNat : Int), .sq 35 (t.ins.map inT), .sq 2 (t.outs.map outT), .int .u32 (t.lock.toNat : Int)])), .bx (.t (.int .i64 0)), .bx (.t (.ba 32 N.1)), .sq 37 (x.1.2.map coinT)]⟩) (fun x => t.outs.length - x.1.1) ⟨⟨0, l⟩, Nat.zero_le _, hlen, hlow, hU⟩ (Wt trivial [3, 4, 5, 8, 11, 36, 37] [0, 1, 2, 3, 4, 5, 6]) ?_
  rintro ⟨⟨i, L⟩, hi, hL, hLl, hT⟩
  dsimp only at hi hL hLl hT ⊢
  by_cases hlt : i < t.outs.length
  · have hlt2 : (i : Int) < (t.outs.length : Int) := by omega
    obtain ⟨z, hz⟩ : ∃ z : Nat, z = t.outs.length - 1 - i := ⟨_, rfl⟩
    have hw1 : IntKind.i64.wrap ((i : Int) + 1) = ((i + 1 : Nat) : Int) := by rw [wrap_i64 (by omega) (by omega)]; omega
    have hw2 : IntKind.i64.wrap ((t.outs.length : Int) - 1) = (t.outs.length : Int) - 1 := by rw [wrap_i64 (by omega) (by omega)]
    have hw3 : IntKind.i64.wrap ((t.outs.length : Int) - 1 - (i : Int)) = (z : Int) := by rw [wrap_i64 (by omega) (by omega)]; omega
    have hw4 : IntKind.u32.wrap (z : Int) = ((UInt32.ofNat z).toNat : Int) := by
      rw [wrap_u32 (by omega) (by omega), UInt32.toNat_ofNat', Nat.mod_eq_of_lt (by omega)]
    rw [show t.outs.length - i = z + 1 by omega, unmV] at hT
    have hsp := spend_vc L ⟨N, UInt32.ofNat z⟩ (by omega) hLl
    obtain ⟨s1, s2, s3⟩ := spdV_ok hLl ⟨N, UInt32.ofNat z⟩
    generalize UInt32.ofNat z = uz at *
    generalize spdV L ⟨N, uz⟩ = S at *
    obtain ⟨L', cc, e⟩ := S
    dsimp only at hT hsp s1 s2 s3
    simp only [vwN] at hsp
    rw [coinT_st] at hsp
    by_cases he : e = 0
    · subst he
      rw [if_neg (by simp)] at hT
      repeat refine St (And.intro hlt <| And.intro hlt2 <| And.intro hmo <| And.intro hw1 <| And.intro hw2 <| And.intro hw3 <| And.intro hw4 <| And.intro hsp <| hd0) ct35 ?_
      exact ⟨⟨⟨i + 1, L'⟩, by show i + 1 ≤ t.outs.length; omega, by show L'.length ≤ 400000; omega, s1, by dsimp only; rw [show t.outs.length - (i + 1) = z by omega]; exact hT⟩, (Wt trivial [3, 4, 5, 8, 11, 36, 37] [0, 1, 2, 3, 4, 5, 7]), by simp only; omega⟩
    · rw [if_pos he] at hT
      have he2 : (e != 0) = true := by simpa using he
      subst hT
      rw [if_pos he] at hR
      subst hR
      dsimp only
      repeat refine St (And.intro hlt <| And.intro hlt2 <| And.intro hmo <| And.intro hw1 <| And.intro hw2 <| And.intro hw3 <| And.intro hw4 <| And.intro hsp <| he2) ct35 ?_
      refine AWP.ret (ret_early (y := .skip) E_ok (rs := [.cell 8 30]) rfl ?_)
      exact Fin @vwN.eq_def [] [0, 1, 7]
  obtain rfl : i = t.outs.length := by omega
  have hlt2 : ¬ (t.outs.length : Int) < (t.outs.length : Int) := by omega
  rw [Nat.sub_self, unmV] at hT
  subst hT
  rw [if_neg (by simp)] at hR
  dsimp only at hR
  repeat refine St hlt2 ct35 ?_
  show AWM _ _ _ _ _ _
  refine AWM.seq2 ?_
  refine St hbw ct35 ?_
  show seqZ _ _ _ _ _ _ _ _
  intro c hc m0 w0 a hi0 hs0
  obtain ⟨m1, hi1, hs1⟩ := (show Weak 2 69 _ ⟨[(60, .clo 59 [.ptr 4 0 []]), (4, .ptr 2 0 []), (8, .ptr 3 0 [])], [.bx (.st [.own 5]), .no, .bx (.ptr 0 0 []), .bx (.t (.int .i64 0)), .bx (.t (.sq 37 (sp.map coinT))), .sq 37 ((lsV L sp 0).map coinT)]⟩ from (Wt (And.intro @lsV.eq_1 <| @lsV.eq_2) [60, 4, 8] [0, 1, 2, 4, 7, 6])) c hc m0 w0 a hi0 hs0
  clear hi0 hs0 hlt2 hi hbw hnm hck hmo hin hef
  refine rev_tail (N := 69) (kp := 2) (k := 5) (j := 4) (rs := [.cell 8 30]) rfl sp (by omega)
    (Hs := fun i => [.bx (.st [.own 5]), .no, .bx (.ptr 0 0 []), .bx (.t (.int .i64 0)), .bx (.t (.sq 37 (sp.map coinT))), .sq 37 ((lsV L sp i).map coinT)])
    (Hx := [.bx (.st [.own 5]), .no, .bx (.ptr 0 0 []), .bx (.t (.int .i64 R.2)), .bx (.t (.sq 37 (sp.map coinT))), .sq 37 (R.1.map coinT)])
    (Gi := fun i => lowL (lsV L sp i) = true ∧ (lsV L sp i).length ≤ 400000 + i ∧ addsV (lsV L sp i) (sp.reverse.drop i) = R)
    (sL := [(4, .ptr 2 0 []), (8, .ptr 3 0 [])])
    (S1 := fun i => ⟨[(4, .ptr 2 0 []), (8, .ptr 3 0 []), (17, .ptr 6 0 [])], [.bx (.st [.own 5]), .no, .bx (.ptr 0 0 []), .bx (.t (.int .i64 0)), .bx (.t (.sq 37 (sp.map coinT))), .sq 37 ((lsV L sp i).map coinT), .bx (.t (coinT (sp.getD (sp.length - 1 - i) dCoin)))]⟩)
    (by decide) (by decide) (by decide) (by decide) (by decide) rfl (fun i => by simp) (fun i => rfl) ?_ ⟨hLl, by show L.length ≤ 400000 + 0; omega, hR⟩ ?_ (fun i => by simp) ?_ ?_ ?_ hc hi1 hs1 rfl
  · intro i
    simp only [lk]
    split
    · show 2 < 5; decide
    · split
      · show 3 < 5; decide
      · trivial
  · intro lr i hlt hG
    simp only [coinT_st]
    generalize sp.getD (sp.length - 1 - i) dCoin = cc
    exact AWF.greg X_ok ct35.cl [0, 1, 2, 3, 4, 5, 8, 9, 10, 11, 12, 13, 15, 17, 18, 31, 36, 37, 38, 56, 60, 67] rfl (Ev trivial) ⟨rfl, (Wt trivial [4, 8, 17] [0, 1, 2, 3, 4, 5, 6])⟩
  · intro lr i hlt hG
    obtain ⟨g1, g2, g3⟩ := hG
    have hlc : lowC (sp.getD (sp.length - 1 - i) dCoin) = true := lowL_get hlows (by omega)
    have hls : lsV L sp (i + 1) = (addV (lsV L sp i) (sp.getD (sp.length - 1 - i) dCoin)).1 := rfl
    rw [rev_drop sp i hlt, addsV] at g3
    have had := add_c (lsV L sp i) (sp.getD (sp.length - 1 - i) dCoin) (by omega) hlc
    obtain ⟨a1, a2⟩ := addV_ok g1 hlc
    rw [hls]
    simp only [coinT_st]
    generalize sp.getD (sp.length - 1 - i) dCoin = cc at *
    generalize lsV L sp i = Li at *
    generalize addV Li cc = A at *
    obtain ⟨L', e⟩ := A
    dsimp only at g3 had a1 a2 ⊢
    simp only [vwN] at had
    refine AWF.block (AWF.seq (AWF.greg X_ok ct35.cl [0, 1, 2, 3, 4, 5, 8, 9, 10, 11, 12, 13, 15, 17, 18, 31, 36, 37, 38, 56, 60, 67] rfl (Ev had) ?_))
    show AWF _ _ _ _ _ _ _ _
    by_cases he : e = 0
    · subst he
      rw [if_neg (by simp)] at g3
      refine AWF.seq (AWF.greg X_ok ct35.cl [0, 1, 2, 3, 4, 5, 8, 9, 10, 11, 12, 13, 15, 17, 18, 31, 36, 37, 38, 56, 60, 67] rfl (Ev hd0) ?_)
      show AWF _ _ _ _ _ _ _ _
      refine AWF.condF (b := false) rfl rfl (AWF.skip (.inl ⟨rfl, ⟨a1, by omega, g3⟩, ?_⟩))
      exact (Wt trivial [] [0, 1, 2, 3, 4, 7])
    · rw [if_pos he] at g3
      have he2 : (e != 0) = true := by simpa using he
      subst g3
      refine AWF.seq (AWF.greg X_ok ct35.cl [0, 1, 2, 3, 4, 5, 8, 9, 10, 11, 12, 13, 15, 17, 18, 31, 36, 37, 38, 56, 60, 67] rfl (Ev he2) ?_)
      show AWF _ _ _ _ _ _ _ _
      refine AWF.condT (b := true) rfl rfl (AWF.seq (AWF.greg X_ok ct35.cl [0, 1, 2, 3, 4, 5, 8, 9, 10, 11, 12, 13, 15, 17, 18, 31, 36, 37, 38, 56, 60, 67] rfl (Ev trivial) ?_))
      show AWF _ _ _ _ _ _ _ _
      refine AWF.ret (.inr ⟨rfl, ?_⟩)
      exact (Wt trivial [] [0, 1, 2, 3, 4, 7])
  · intro D hG
    obtain ⟨g1, g2, g3⟩ := hG
    rw [List.drop_of_length_le (by rw [List.length_reverse]; exact Nat.le_refl _), addsV] at g3
    subst g3
    refine AWF.seq (AWF.greg X_ok ct35.cl [0, 1, 2, 3, 4, 5, 8, 9, 10, 11, 12, 13, 15, 17, 18, 31, 36, 37, 38, 56, 60, 67] rfl (Ev trivial) ?_)
    show AWF _ _ _ _ _ _ _ _
    refine AWF.ret ⟨rfl, ?_⟩
    exact Fin @vwN.eq_def [] [0, 1, 5]
  · exact Fin @vwN.eq_def [] [0, 1, 5]

theorem rev_c (l : List TCoin) (t : TTx) (first : Bool) (sp : List TCoin) (h : l.length ≤ 400000) (h2 : lowL l = true) (h3 : sp.length ≤ 10000) (h4 : lowL sp = true) (h5 : t.ins.length ≤ 10000) :
    G35 [.bx (.st [.own 1]), .sq 37 (l.map coinT)] [.ptr 0 0 [], .t (txT t), .t (.bool first), .t (.sq 37 (sp.map coinT))] = some (vwN (revV l t (nmH t) first sp).1, .t (.int .i64 (revV l t (nmH t) first sp).2)) := by
  show G35 (vwH l) [.ptr 0 0 [], .t (txT t), .t (.bool first), .t (coinsT sp)] = _
  simp only [G35, inv_of vwH_inj, inv_of txT_inj, inv_of coinsT_inj]
  exact if_pos ⟨h, h2, h3, h4, h5⟩

end Go.Fw

end

section
/- view: the trial of a transaction reverted; Revert. -/
namespace Go.Fw
open Go Go.Proofs
set_option linter.unusedVariables false
set_option linter.unusedSimpArgs false

/-- What Revert's trial is lent. -/
structure RvX where
  l : List TCoin
  t : TTx
  first : Bool
  sp : List TCoin
noncomputable def rvH (x : RvX) : List Blk := [.bx (.st [.own 1]), .sq 37 (x.l.map coinT), .bx (.t (txT x.t)), .bx (.t (.bool x.first)), .bx (.t (coinsT x.sp))]
theorem rvH_inj (a b : RvX) (h : rvH a = rvH b) : a = b := by
  obtain ⟨l1, t1, f1, s1⟩ := a
  obtain ⟨l2, t2, f2, s2⟩ := b
  simp only [rvH, List.cons.injEq, Blk.sq.injEq, Blk.bx.injEq, AV.t.injEq, T.bool.injEq, true_and, and_true] at h
  obtain ⟨g1, g2, g3, g4⟩ := h
  rw [coins_inj _ _ g1, txT_inj _ _ g2, g3, coinsT_inj _ _ g4]
noncomputable def rvN (x : RvX) (l : List TCoin) : List Blk := [.bx (.st [.own 5]), .no, .bx (.t (txT x.t)), .bx (.t (.bool x.first)), .bx (.t (coinsT x.sp)), .sq 37 (l.map coinT)]
noncomputable def rv1 (x : RvX) : List TCoin × Int := revV x.l x.t (nmH x.t) x.first x.sp
def RvX.ok (x : RvX) : Prop := x.l.length ≤ 400000 ∧ lowL x.l = true ∧ x.sp.length ≤ 10000 ∧ lowL x.sp = true ∧ x.t.ins.length ≤ 10000

noncomputable def G39 : GFun
  | HB, [.ptr 0 0 [], .ptr 2 0 [], .ptr 3 0 [], .ptr 4 0 []] => match inv rvH HB with
    | some x => @ite _ ((x.ok)) (Classical.propDecidable _) ((some (rvN x (rv1 x).1, .t (.int .i64 (rv1 x).2)))) none
    | none => none
  | _, _ => none

theorem ct39 : CT [(35, ⟨[true, false, false, false], G35⟩)] [0, 1, 2, 3, 5] [] := ⟨(.cons g35 (.nil _))⟩

set_option maxHeartbeats 2000000 in
theorem g39 : GCon Try.prog 39 G39 := by
  refine gconc E_ok (rs := [.tmp 5 30]) Try.func39 rfl Try.ntmps39 (by kernel_rfl) rfl (by decide) G39 (np := 4) ?_ ?_
  · intro HB xs h; unfold G39; split <;> first | rfl | (simp at h; done)
  intro HB xs H r hG hwf hex
  unfold G39 at hG
  split at hG <;> try (cases hG; done)
  split at hG <;> try (cases hG; done)
  rename_i x hx
  split at hG
  case isFalse => cases hG
  rename_i hcc
  cases hG
  obtain ⟨h1, h2, h3, h4, h5⟩ := hcc
  obtain rfl := inv_inv hx
  have h := rev_c x.l x.t x.first x.sp h1 h2 h3 h4 h5
  obtain ⟨l, t, first, sp⟩ := x
  dsimp only at h
  simp only [rvH, rvN, rv1, coinsT]
  generalize revV l t (nmH t) first sp = R at *
  obtain ⟨L, e⟩ := R
  dsimp only at h ⊢
  rw [txT_st] at h ⊢
  simp only [vwN] at h
  repeat refine St (And.intro (And.intro @gentry.eq_1 <| @gentry.eq_2) <| h) ct39 ?_
  exact AWP.ret (Fin trivial [] [0, 1, 2, 3, 4, 5])
theorem rv1_c (x : RvX) (h : x.ok) : G39 (rvH x) [.ptr 0 0 [], .ptr 2 0 [], .ptr 3 0 [], .ptr 4 0 []] = some (rvN x (rv1 x).1, .t (.int .i64 (rv1 x).2)) := by
  simp only [G39, inv_of rvH_inj]
  exact if_pos h

/-- The trial of Revert. -/
noncomputable def G32R : GFun
  | HB, [.ptr 0 0 [], .clo 39 [.ptr 2 0 [], .ptr 3 0 [], .ptr 4 0 []]] => match inv rvH HB with
    | some x => @ite _ ((x.ok)) (Classical.propDecidable _) ((some (rvN x (if (rv1 x).2 = 0 then (rv1 x).1 else x.l), .t (.int .i64 (rv1 x).2)))) none
    | none => none
  | _, _ => none

theorem ct32R : CT [(39, ⟨[true, true, true, true], G39⟩), (47, ⟨[true], G47⟩)] [0, 1, 4, 5, 6, 18] [] := ⟨(.cons g39 (.cons g47 (.nil _)))⟩

set_option maxHeartbeats 4000000 in
theorem g32R : GCon Try.prog 32 G32R := by
  refine gconc E_ok (rs := [.tmp 4 30]) Try.func32 rfl Try.ntmps32 (by kernel_rfl) rfl (by decide) G32R (np := 2) ?_ ?_
  · intro HB xs h; unfold G32R; split <;> first | rfl | (simp at h; done)
  intro HB xs H r hG hwf hex
  unfold G32R at hG
  split at hG <;> try (cases hG; done)
  
  split at hG <;> try (cases hG; done)
  rename_i x hx
  split at hG
  case isFalse => cases hG
  rename_i hcc
  cases hG
  obtain rfl := inv_inv hx
  have h := rv1_c x hcc
  have hcl := clone_vc x.l (by have := hcc.1; omega)
  generalize rv1 x = R at *
  obtain ⟨l, t, first, sp⟩ := x
  obtain ⟨L, e⟩ := R
  dsimp only at h hcl ⊢
  simp only [rvH, rvN, coinsT] at h ⊢
  rw [txT_st] at h ⊢
  by_cases he : e = 0
  · subst he
    rw [if_pos rfl]
    have he2 : ((0 : Int) == 0) = true := rfl
    repeat refine St (And.intro (And.intro @gentry.eq_1 <| @gentry.eq_2) <| And.intro hcl <| And.intro h <| he2) ct32R ?_
    refine AWP.weak (Weak.drop 1 _ rfl rfl) ?_
    exact AWP.ret (Fin trivial [] [0, 1, 2, 3, 4, 7])
  · rw [if_neg he]
    have he2 : (e == 0) = false := by simpa using he
    repeat refine St (And.intro (And.intro @gentry.eq_1 <| @gentry.eq_2) <| And.intro hcl <| And.intro h <| he2) ct32R ?_
    refine AWP.weak (Weak.moveBx (v' := _) 0 1 [0] 0 _ rfl rfl rfl (by decide) (by simp only [W, eqq, ↓reduceIte, Nat.reduceEqDiff, Nat.reduceLT, Nat.reduceLeDiff, Nat.reduceAdd, Nat.reduceMul, Nat.reduceSub, Nat.reduceBEq, Int.reduceLE, Int.reduceLT, Int.reduceNeg, Int.reduceToNat, Int.reduceEq, Int.reduceBEq, Int.reduceBNe, Nat.reduceBNe, bne_self_eq_false, reduceCtorEq, gt_iff_lt, ge_iff_le]) (by simp only [W, eqq, ↓reduceIte, Nat.reduceEqDiff, Nat.reduceLT, Nat.reduceLeDiff, Nat.reduceAdd, Nat.reduceMul, Nat.reduceSub, Nat.reduceBEq, Int.reduceLE, Int.reduceLT, Int.reduceNeg, Int.reduceToNat, Int.reduceEq, Int.reduceBEq, Int.reduceBNe, Nat.reduceBNe, bne_self_eq_false, reduceCtorEq, gt_iff_lt, ge_iff_le]) (by simp only [W, eqq, ↓reduceIte, Nat.reduceEqDiff, Nat.reduceLT, Nat.reduceLeDiff, Nat.reduceAdd, Nat.reduceMul, Nat.reduceSub, Nat.reduceBEq, Int.reduceLE, Int.reduceLT, Int.reduceNeg, Int.reduceToNat, Int.reduceEq, Int.reduceBEq, Int.reduceBNe, Nat.reduceBNe, bne_self_eq_false, reduceCtorEq, gt_iff_lt, ge_iff_le]; rfl)) ?_
    exact AWP.ret (Fin trivial [] [0, 1, 2, 3, 4, 8])

theorem trialR_c (x : RvX) (h : x.ok) : G32R (rvH x) [.ptr 0 0 [], .clo 39 [.ptr 2 0 [], .ptr 3 0 [], .ptr 4 0 []]] = some (rvN x (if (rv1 x).2 = 0 then (rv1 x).1 else x.l), .t (.int .i64 (rv1 x).2)) := by
  simp only [G32R, inv_of rvH_inj]
  exact if_pos h

/-- A transaction reverted, or nothing changed. -/
noncomputable def revertV (l : List TCoin) (t : TTx) (first : Bool) (sp : List TCoin) : List TCoin × Int :=
  (if (rv1 ⟨l, t, first, sp⟩).2 = 0 then (rv1 ⟨l, t, first, sp⟩).1 else l, (rv1 ⟨l, t, first, sp⟩).2)
noncomputable def G25R : GFun
  | HB, [.ptr 0 0 [], .t x, .t (.bool first), .t y] => match inv vwH HB, inv txT x, inv coinsT y with
    | some l, some t, some sp => @ite _ ((RvX.ok ⟨l, t, first, sp⟩)) (Classical.propDecidable _) ((some (vwN (revertV l t first sp).1, .t (.int .i64 (revertV l t first sp).2)))) none
    | _, _, _ => none
  | _, _ => none

theorem ct25R : CT [(32, ⟨[true, true], G32R⟩)] [0, 1, 2, 3, 5, 6, 7, 8, 10] [] := ⟨(.cons g32R (.nil _))⟩

set_option maxHeartbeats 4000000 in
theorem g25R : GCon Try.prog 25 G25R := by
  refine gconc E_ok (rs := [.tmp 8 30]) Try.func25 rfl Try.ntmps25 (by kernel_rfl) rfl (by decide) G25R (np := 4) ?_ ?_
  · intro HB xs h; unfold G25R; split <;> first | rfl | (simp at h; done)
  intro HB xs H r hG hwf hex
  unfold G25R at hG
  split at hG <;> try (cases hG; done)
  
  rename_i x first y
  split at hG <;> try (cases hG; done)
  rename_i l t sp hl htx hsp
  split at hG
  case isFalse => cases hG
  rename_i hcc
  cases hG
  obtain rfl := inv_inv hl
  obtain rfl := inv_inv htx
  obtain rfl := inv_inv hsp
  have h := trialR_c ⟨l, t, first, sp⟩ hcc
  unfold revertV
  generalize rv1 ⟨l, t, first, sp⟩ = R at *
  obtain ⟨L, e⟩ := R
  dsimp only at h ⊢
  generalize (if e = 0 then L else l) = Z at *
  simp only [vwH, rvH, rvN, coinsT] at h ⊢
  rw [txT_st] at h ⊢
  repeat refine St (And.intro (And.intro @gentry.eq_1 <| @gentry.eq_2) <| h) ct25R ?_
  exact AWP.ret (Fin @vwN.eq_def [] [0, 1, 5])
theorem revert_c (l : List TCoin) (t : TTx) (first : Bool) (sp : List TCoin) (h : RvX.ok ⟨l, t, first, sp⟩) : G25R [.bx (.st [.own 1]), .sq 37 (l.map coinT)] [.ptr 0 0 [], .t (txT t), .t (.bool first), .t (.sq 37 (sp.map coinT))] = some (vwN (revertV l t first sp).1, .t (.int .i64 (revertV l t first sp).2)) := by
  show G25R (vwH l) [.ptr 0 0 [], .t (txT t), .t (.bool first), .t (coinsT sp)] = _
  simp only [G25R, inv_of vwH_inj, inv_of txT_inj, inv_of coinsT_inj]
  exact if_pos h

end Go.Fw

end

section
/- view: a block applied. -/
namespace Go.Fw
open Go Go.Proofs
set_option linter.unusedVariables false
set_option linter.unusedSimpArgs false

theorem applyV_ok {l : List TCoin} (h : lowL l = true) (t : TTx) (nm : H32) (ht : UInt32) (first : Bool) :
    lowL (applyV l t nm ht first).1 = true ∧ (applyV l t nm ht first).1.length ≤ l.length + 20 ∧ lowL (applyV l t nm ht first).2.1 = true ∧ (applyV l t nm ht first).2.1.length ≤ 20 := by
  obtain ⟨t1, t2, t3, t4⟩ := takeV_ok (insR t first) l [] h rfl
  unfold applyV
  rcases chk_two t with ⟨e1, e2, e3⟩ | ⟨e1, e2⟩
  rotate_left
  · rw [if_pos (by rw [e1]; decide)]
    exact ⟨h, by simp, rfl, by simp⟩
  rw [if_neg (by rw [e1]; simp)]
  obtain ⟨c1, c2, c3, _⟩ := countsB_ok e2
  have hrl : (insR t first).length ≤ 20 := by unfold insR; split <;> simp <;> omega
  simp only [List.length_nil, Nat.zero_add] at t4
  split
  · exact ⟨t1, by simp only; omega, rfl, by simp⟩
  · have hmk := madeC_low e2 nm ht first
    obtain ⟨a1, a2⟩ := addsV_ok (madeC t nm ht first) _ t1 hmk
    rw [madeC_len] at a2
    split
    · exact ⟨a1, by simp only; omega, rfl, by simp⟩
    · exact ⟨a1, by simp only; omega, t3, by simp only; omega⟩

theorem blkV_ok (nm : TTx → H32) (ht : UInt32) : ∀ (ts : List TTx) (l acc : List TCoin) (first : Bool), lowL l = true → lowL acc = true →
    lowL (blkV nm ht l ts first acc).1 = true ∧ (blkV nm ht l ts first acc).1.length ≤ l.length + 20 * ts.length ∧ lowL (blkV nm ht l ts first acc).2.1 = true ∧ (blkV nm ht l ts first acc).2.1.length ≤ acc.length + 20 * ts.length
  | [], l, acc, first, h, ha => ⟨h, by simp [blkV], ha, by simp [blkV]⟩
  | t :: ts, l, acc, first, h, ha => by
    obtain ⟨a1, a2, a3, a4⟩ := applyV_ok h t (nm t) ht first
    unfold blkV
    rw [List.length_cons]
    split
    · exact ⟨a1, by simp only; omega, ha, by simp only; omega⟩
    · obtain ⟨b1, b2, b3, b4⟩ := blkV_ok nm ht ts (applyV l t (nm t) ht first).1 (acc ++ (applyV l t (nm t) ht first).2.1) false a1 (by rw [lowL_app, ha, a3]; rfl)
      rw [List.length_append] at b4
      exact ⟨b1, by omega, b3, by omega⟩

/-- What Block's trial is lent. -/
structure BkX where
  l : List TCoin
  ts : List TTx
  ht : UInt32
noncomputable def bkH (x : BkX) : List Blk := [.bx (.st [.own 1]), .sq 37 (x.l.map coinT), .bx (.t (txsT x.ts)), .bx (.t (.fn 31)), .bx (.t (h32T x.ht)), .bx (.t .nil)]
theorem bkH_inj (a b : BkX) (h : bkH a = bkH b) : a = b := by
  obtain ⟨l1, t1, h1⟩ := a
  obtain ⟨l2, t2, h2⟩ := b
  simp only [bkH, List.cons.injEq, Blk.sq.injEq, Blk.bx.injEq, AV.t.injEq, true_and, and_true] at h
  obtain ⟨g1, g2, g3⟩ := h
  rw [coins_inj _ _ g1, txsT_inj _ _ g2, h32T_inj _ _ g3]
noncomputable def bkN (x : BkX) (l sp : List TCoin) : List Blk := [.bx (.st [.own 6]), .no, .bx (.t (txsT x.ts)), .bx (.t (.fn 31)), .bx (.t (h32T x.ht)), .bx (.t (.sq 37 (sp.map coinT))), .sq 37 (l.map coinT)]
noncomputable def bk1 (x : BkX) : List TCoin × List TCoin × Int := blkV nmH x.ht x.l x.ts true []

noncomputable def G33 : GFun
  | HB, [.ptr 0 0 [], .ptr 2 0 [], .ptr 3 0 [], .ptr 4 0 [], .ptr 5 0 []] => match inv bkH HB with
    | some x => @ite _ ((x.l.length ≤ 400000 ∧ lowL x.l = true ∧ x.ts.length ≤ 10000)) (Classical.propDecidable _) ((some (bkN x (bk1 x).1 (bk1 x).2.1, .t (.int .i64 (bk1 x).2.2)))) none
    | none => none
  | _, _ => none

theorem ct33 : CT [(31, ⟨[true, false, false, false], G31⟩)] [0, 1, 2, 3, 4, 6, 7, 8, 9, 10, 11, 12, 13, 14, 29] [] := ⟨(.cons g31 (.nil _))⟩

theorem txs_getD (l : List TTx) (k : Nat) (h : k < l.length) : (l.map txT).getD k default = txT (l.getD k dTx) := by simp [h]

set_option maxHeartbeats 4000000 in
theorem g33 : GCon Try.prog 33 G33 := by
  refine gconc E_ok (rs := [.tmp 6 30]) Try.func33 rfl Try.ntmps33 (by kernel_rfl) rfl (by decide) G33 (np := 5) ?_ ?_
  · intro HB xs h; unfold G33; split <;> first | rfl | (simp at h; done)
  intro HB xs H r hG hwf hex
  unfold G33 at hG
  split at hG <;> try (cases hG; done)
  split at hG <;> try (cases hG; done)
  rename_i x hx
  split at hG
  case isFalse => cases hG
  rename_i hcc
  cases hG
  obtain ⟨hlen, hlow, htl⟩ := hcc
  obtain rfl := inv_inv hx
  obtain ⟨l, ts, ht⟩ := x
  dsimp only at hlen hlow htl
  have hml : (ts.map txT).length = ts.length := List.length_map ..
  obtain ⟨R, hR⟩ : ∃ R, blkV nmH ht l ts true [] = R := ⟨_, rfl⟩
  simp only [bkH, bkN, bk1, h32T, hR]
  refine AWP.weak (Weak.ownBx (v' := _) 5 [] 0 (.sq 37 []) rfl (by simp only [W, eqq, ↓reduceIte, Nat.reduceEqDiff, Nat.reduceLT, Nat.reduceLeDiff, Nat.reduceAdd, Nat.reduceMul, Nat.reduceSub, Nat.reduceBEq, Int.reduceLE, Int.reduceLT, Int.reduceNeg, Int.reduceToNat, Int.reduceEq, Int.reduceBEq, Int.reduceBNe, Nat.reduceBNe, bne_self_eq_false, reduceCtorEq, gt_iff_lt, ge_iff_le]) (by simp only [W, eqq, ↓reduceIte, Nat.reduceEqDiff, Nat.reduceLT, Nat.reduceLeDiff, Nat.reduceAdd, Nat.reduceMul, Nat.reduceSub, Nat.reduceBEq, Int.reduceLE, Int.reduceLT, Int.reduceNeg, Int.reduceToNat, Int.reduceEq, Int.reduceBEq, Int.reduceBNe, Nat.reduceBNe, bne_self_eq_false, reduceCtorEq, gt_iff_lt, ge_iff_le]) (by simp only [W, eqq, ↓reduceIte, Nat.reduceEqDiff, Nat.reduceLT, Nat.reduceLeDiff, Nat.reduceAdd, Nat.reduceMul, Nat.reduceSub, Nat.reduceBEq, Int.reduceLE, Int.reduceLT, Int.reduceNeg, Int.reduceToNat, Int.reduceEq, Int.reduceBEq, Int.reduceBNe, Nat.reduceBNe, bne_self_eq_false, reduceCtorEq, gt_iff_lt, ge_iff_le]; rfl) (.inr ⟨_, by decide, rfl⟩)) ?_
  refine AWP.weak (Weak.moveBx (v' := _) 0 1 [0] 0 _ rfl rfl rfl (by decide) (by simp only [W, eqq, ↓reduceIte, Nat.reduceEqDiff, Nat.reduceLT, Nat.reduceLeDiff, Nat.reduceAdd, Nat.reduceMul, Nat.reduceSub, Nat.reduceBEq, Int.reduceLE, Int.reduceLT, Int.reduceNeg, Int.reduceToNat, Int.reduceEq, Int.reduceBEq, Int.reduceBNe, Nat.reduceBNe, bne_self_eq_false, reduceCtorEq, gt_iff_lt, ge_iff_le]) (by simp only [W, eqq, ↓reduceIte, Nat.reduceEqDiff, Nat.reduceLT, Nat.reduceLeDiff, Nat.reduceAdd, Nat.reduceMul, Nat.reduceSub, Nat.reduceBEq, Int.reduceLE, Int.reduceLT, Int.reduceNeg, Int.reduceToNat, Int.reduceEq, Int.reduceBEq, Int.reduceBNe, Nat.reduceBNe, bne_self_eq_false, reduceCtorEq, gt_iff_lt, ge_iff_le]) (by simp only [W, eqq, ↓reduceIte, Nat.reduceEqDiff, Nat.reduceLT, Nat.reduceLeDiff, Nat.reduceAdd, Nat.reduceMul, Nat.reduceSub, Nat.reduceBEq, Int.reduceLE, Int.reduceLT, Int.reduceNeg, Int.reduceToNat, Int.reduceEq, Int.reduceBEq, Int.reduceBNe, Nat.reduceBNe, bne_self_eq_false, reduceCtorEq, gt_iff_lt, ge_iff_le]; rfl)) ?_
  repeat refine St (And.intro (And.intro @gentry.eq_1 <| @gentry.eq_2) <| hml) ct33 ?_
  refine AWP.loop (G := { x : Nat × List TCoin × List TCoin // x.1 ≤ ts.length ∧ x.2.1.length ≤ 400000 + 20 * x.1 ∧ lowL x.2.1 = true ∧ x.2.2.length ≤ 20 * x.1 ∧ blkV nmH ht x.2.1 (ts.drop x.1) (decide (x.1 = 0)) x.2.2 = R }) (fun x => ⟨[(0, .ptr 0 0 []), (1, .ptr 2 0 []), (2, .ptr 3 0 []), (3, .ptr 4 0 []), (4, .ptr 5 0 []), (11, .t (txsT ts)), (12, .t (.int .i64 (ts.length : Int))), (13, .t (.int .i64 (x.1.1 : Int)))], [.bx (.st [.own 6]), .no, .bx (.t (txsT ts)), .bx (.t (.fn 31)), .bx (.t (.int .u32 (ht.toNat : Int))), .bx (.own 7), .sq 37 (x.1.2.1.map coinT), .sq 37 (x.1.2.2.map coinT)]⟩) (fun x => ts.length - x.1.1) ⟨⟨0, l, []⟩, Nat.zero_le _, by show l.length ≤ 400000 + 20 * 0; omega, hlow, Nat.le_refl _, hR⟩ (Wt (@List.map_nil.{0, 0}) [0, 1, 2, 3, 4, 11, 12, 13] [0, 1, 2, 3, 4, 5, 7, 6]) ?_
  rintro ⟨⟨i, L, A⟩, hi, hL, hLl, hA, hT⟩
  dsimp only at hi hL hLl hA hT ⊢
  clear hR hlen hlow
  have hmA : (A.map coinT).length ≤ 1000000 := by rw [List.length_map]; omega
  by_cases hlt : i < ts.length
  · have hlt2 : (i : Int) < (ts.length : Int) := by omega
    have hw1 : IntKind.i64.wrap ((i : Int) + 1) = ((i + 1 : Nat) : Int) := by rw [wrap_i64 (by omega) (by omega)]; omega
    have hb0 : ((i : Int) == 0) = decide (i = 0) := by
      rw [Bool.eq_iff_iff, beq_iff_eq, decide_eq_true_eq]; omega
    have hg := txs_getD ts i hlt
    have hdr : ts.drop i = ts.getD i dTx :: ts.drop (i + 1) := by
      rw [List.drop_eq_getElem_cons hlt]
      simp [List.getD_eq_getElem?_getD, hlt]
    rw [hdr, blkV] at hT
    have hap := apply_vc L (ts.getD i dTx) ht (decide (i = 0)) (by omega) hLl
    obtain ⟨a1, a2, a3, a4⟩ := applyV_ok hLl (ts.getD i dTx) (nmH (ts.getD i dTx)) ht (decide (i = 0))
    rw [txT_st] at hg hap
    generalize ts.getD i dTx = t at *
    obtain ⟨f, hfi⟩ : ∃ f, decide (i = 0) = f := ⟨_, rfl⟩
    rw [hfi] at hap a1 a2 a3 a4 hT hb0
    generalize applyV L t (nmH t) ht f = Z at *
    obtain ⟨L', sp, e⟩ := Z
    dsimp only at hT hap a1 a2 a3 a4
    simp only [vwN] at hap
    by_cases he : e = 0
    · subst he
      rw [if_neg (by simp)] at hT
      have hd0 : ((0 : Int) != 0) = false := rfl
      have hmap : (A ++ sp).map coinT = A.map coinT ++ sp.map coinT := List.map_append ..
      have hms : (sp.map coinT).length ≤ 1000000 := by rw [List.length_map]; omega
      have hf2 : decide (i + 1 = 0) = false := by simp
      generalize A.map coinT = X at *
      generalize sp.map coinT = Y at *
      repeat refine St (And.intro hlt <| And.intro hlt2 <| And.intro hml <| And.intro hw1 <| And.intro hb0 <| And.intro hg <| And.intro hap <| And.intro hmA <| And.intro hms <| hd0) ct33 ?_
      exact ⟨⟨⟨i + 1, L', A ++ sp⟩, by show i + 1 ≤ ts.length; omega, by show L'.length ≤ 400000 + 20 * (i + 1); omega, a1, by show (A ++ sp).length ≤ 20 * (i + 1); rw [List.length_append]; omega, by dsimp only; rw [hf2]; exact hT⟩, (Wt hmap [0, 1, 2, 3, 4, 11, 12, 13] [0, 1, 2, 3, 4, 5, 9, 10]), by simp only; omega⟩
    · rw [if_pos he] at hT
      have he2 : (e != 0) = true := by simpa using he
      subst hT
      dsimp only
      repeat refine St (And.intro hlt <| And.intro hlt2 <| And.intro hml <| And.intro hw1 <| And.intro hb0 <| And.intro hg <| And.intro hap <| he2) ct33 ?_
      refine AWP.weak (Weak.trans (Weak.freeze 7) (Weak.thawBx 5 (y := .sq 37 (A.map coinT)) rfl rfl)) ?_
      exact AWP.ret (Fin trivial [] [0, 1, 2, 3, 4, 5, 9])
  obtain rfl : i = ts.length := by omega
  have hlt2 : ¬ (ts.length : Int) < (ts.length : Int) := by omega
  rw [List.drop_length, blkV] at hT
  subst hT
  dsimp only
  repeat refine St hlt2 ct33 ?_
  refine AWP.weak (Weak.trans (Weak.freeze 7) (Weak.thawBx 5 (y := .sq 37 (A.map coinT)) rfl rfl)) ?_
  exact AWP.ret (Fin trivial [] [0, 1, 2, 3, 4, 5, 6])

end Go.Fw

end

section
/- view: the trial of a block; Block. -/
namespace Go.Fw
open Go Go.Proofs
set_option linter.unusedVariables false
set_option linter.unusedSimpArgs false

theorem bk1_c (x : BkX) (h : x.l.length ≤ 400000) (h2 : lowL x.l = true) (h3 : x.ts.length ≤ 10000) : G33 (bkH x) [.ptr 0 0 [], .ptr 2 0 [], .ptr 3 0 [], .ptr 4 0 [], .ptr 5 0 []] = some (bkN x (bk1 x).1 (bk1 x).2.1, .t (.int .i64 (bk1 x).2.2)) := by
  simp only [G33, inv_of bkH_inj]
  exact if_pos ⟨h, h2, h3⟩

/-- The trial of Block. -/
noncomputable def G32B : GFun
  | HB, [.ptr 0 0 [], .clo 33 [.ptr 2 0 [], .ptr 3 0 [], .ptr 4 0 [], .ptr 5 0 []]] => match inv bkH HB with
    | some x => @ite _ ((x.l.length ≤ 400000 ∧ lowL x.l = true ∧ x.ts.length ≤ 10000)) (Classical.propDecidable _) ((some (bkN x (if (bk1 x).2.2 = 0 then (bk1 x).1 else x.l) (bk1 x).2.1, .t (.int .i64 (bk1 x).2.2)))) none
    | none => none
  | _, _ => none

theorem ct32B : CT [(33, ⟨[true, true, true, true, true], G33⟩), (47, ⟨[true], G47⟩)] [0, 1, 4, 5, 6, 18] [] := ⟨(.cons g33 (.cons g47 (.nil _)))⟩

set_option maxHeartbeats 4000000 in
theorem g32B : GCon Try.prog 32 G32B := by
  refine gconc E_ok (rs := [.tmp 4 30]) Try.func32 rfl Try.ntmps32 (by kernel_rfl) rfl (by decide) G32B (np := 2) ?_ ?_
  · intro HB xs h; unfold G32B; split <;> first | rfl | (simp at h; done)
  intro HB xs H r hG hwf hex
  unfold G32B at hG
  split at hG <;> try (cases hG; done)
  
  split at hG <;> try (cases hG; done)
  rename_i x hx
  split at hG
  case isFalse => cases hG
  rename_i hcc
  cases hG
  obtain ⟨hlen, hlow, htl⟩ := hcc
  obtain rfl := inv_inv hx
  have h := bk1_c x hlen hlow htl
  have hcl := clone_vc x.l (by omega)
  generalize bk1 x = R at *
  obtain ⟨l, ts, ht⟩ := x
  obtain ⟨L, sp, e⟩ := R
  dsimp only at h hcl ⊢
  simp only [bkH, bkN, h32T, txsT] at h ⊢
  by_cases he : e = 0
  · subst he
    rw [if_pos rfl]
    have he2 : ((0 : Int) == 0) = true := rfl
    repeat refine St (And.intro (And.intro @gentry.eq_1 <| @gentry.eq_2) <| And.intro hcl <| And.intro h <| he2) ct32B ?_
    refine AWP.weak (Weak.drop 1 _ rfl rfl) ?_
    exact AWP.ret (Fin trivial [] [0, 1, 2, 3, 4, 5, 8])
  · rw [if_neg he]
    have he2 : (e == 0) = false := by simpa using he
    repeat refine St (And.intro (And.intro @gentry.eq_1 <| @gentry.eq_2) <| And.intro hcl <| And.intro h <| he2) ct32B ?_
    refine AWP.weak (Weak.moveBx (v' := _) 0 1 [0] 0 _ rfl rfl rfl (by decide) (by simp only [W, eqq, ↓reduceIte, Nat.reduceEqDiff, Nat.reduceLT, Nat.reduceLeDiff, Nat.reduceAdd, Nat.reduceMul, Nat.reduceSub, Nat.reduceBEq, Int.reduceLE, Int.reduceLT, Int.reduceNeg, Int.reduceToNat, Int.reduceEq, Int.reduceBEq, Int.reduceBNe, Nat.reduceBNe, bne_self_eq_false, reduceCtorEq, gt_iff_lt, ge_iff_le]) (by simp only [W, eqq, ↓reduceIte, Nat.reduceEqDiff, Nat.reduceLT, Nat.reduceLeDiff, Nat.reduceAdd, Nat.reduceMul, Nat.reduceSub, Nat.reduceBEq, Int.reduceLE, Int.reduceLT, Int.reduceNeg, Int.reduceToNat, Int.reduceEq, Int.reduceBEq, Int.reduceBNe, Nat.reduceBNe, bne_self_eq_false, reduceCtorEq, gt_iff_lt, ge_iff_le]) (by simp only [W, eqq, ↓reduceIte, Nat.reduceEqDiff, Nat.reduceLT, Nat.reduceLeDiff, Nat.reduceAdd, Nat.reduceMul, Nat.reduceSub, Nat.reduceBEq, Int.reduceLE, Int.reduceLT, Int.reduceNeg, Int.reduceToNat, Int.reduceEq, Int.reduceBEq, Int.reduceBNe, Nat.reduceBNe, bne_self_eq_false, reduceCtorEq, gt_iff_lt, ge_iff_le]; rfl)) ?_
    exact AWP.ret (Fin trivial [] [0, 1, 2, 3, 4, 5, 9])

theorem trialB_c (x : BkX) (h : x.l.length ≤ 400000) (h2 : lowL x.l = true) (h3 : x.ts.length ≤ 10000) : G32B (bkH x) [.ptr 0 0 [], .clo 33 [.ptr 2 0 [], .ptr 3 0 [], .ptr 4 0 [], .ptr 5 0 []]] = some (bkN x (if (bk1 x).2.2 = 0 then (bk1 x).1 else x.l) (bk1 x).2.1, .t (.int .i64 (bk1 x).2.2)) := by
  simp only [G32B, inv_of bkH_inj]
  exact if_pos ⟨h, h2, h3⟩

/-- A block applied, or nothing changed. -/
noncomputable def blockV (l : List TCoin) (ts : List TTx) (ht : UInt32) : List TCoin × List TCoin × Int :=
  (if (bk1 ⟨l, ts, ht⟩).2.2 = 0 then (bk1 ⟨l, ts, ht⟩).1 else l, if (bk1 ⟨l, ts, ht⟩).2.2 = 0 then (bk1 ⟨l, ts, ht⟩).2.1 else [], (bk1 ⟨l, ts, ht⟩).2.2)
noncomputable def G17B : GFun
  | HB, [.ptr 0 0 [], .t x, .t y] => match inv vwH HB, inv txsT x, inv h32T y with
    | some l, some ts, some ht => @ite _ ((l.length ≤ 400000 ∧ lowL l = true ∧ ts.length ≤ 10000)) (Classical.propDecidable _) ((some (vwN (blockV l ts ht).1, .tup [.t (.sq 37 ((blockV l ts ht).2.1.map coinT)), .t (.int .i64 (blockV l ts ht).2.2)]))) none
    | _, _, _ => none
  | _, _ => none

theorem ct17B : CT [(31, ⟨[true, false, false, false], G31⟩), (32, ⟨[true, true], G32B⟩)] [0, 1, 2, 4, 5, 6, 7, 8, 9, 10, 12, 17] [] := ⟨(.cons g31 (.cons g32B (.nil _)))⟩

set_option maxHeartbeats 4000000 in
theorem g17B : GCon Try.prog 17 G17B := by
  refine gconc E_ok (rs := [.tmp 6 22, .tmp 7 30]) Try.func17 rfl Try.ntmps17 (by kernel_rfl) rfl (by decide) G17B (np := 3) ?_ ?_
  · intro HB xs h; unfold G17B; split <;> first | rfl | (simp at h; done)
  intro HB xs H r hG hwf hex
  unfold G17B at hG
  split at hG <;> try (cases hG; done)
  
  rename_i x y
  split at hG <;> try (cases hG; done)
  rename_i l ts ht hl htx hht
  split at hG
  case isFalse => cases hG
  rename_i hcc
  cases hG
  obtain ⟨hlen, hlow, htl⟩ := hcc
  obtain rfl := inv_inv hl
  obtain rfl := inv_inv htx
  obtain rfl := inv_inv hht
  have h := trialB_c ⟨l, ts, ht⟩ hlen hlow htl
  unfold blockV
  generalize bk1 ⟨l, ts, ht⟩ = R at *
  obtain ⟨L, sp, e⟩ := R
  dsimp only at h ⊢
  by_cases he : e = 0
  · subst he
    rw [if_pos rfl] at h
    rw [if_pos rfl, if_pos rfl]
    have he2 : ((0 : Int) != 0) = false := rfl
    simp only [vwH, bkH, bkN, h32T, txsT] at h ⊢
    repeat refine St (And.intro (And.intro @gentry.eq_1 <| @gentry.eq_2) <| And.intro h <| he2) ct17B ?_
    exact AWP.ret (Fin @vwN.eq_def [] [0, 1, 6])
  · rw [if_neg he] at h
    rw [if_neg he, if_neg he]
    have he2 : (e != 0) = true := by simpa using he
    simp only [vwH, bkH, bkN, h32T, txsT] at h ⊢
    repeat refine St (And.intro (And.intro @gentry.eq_1 <| @gentry.eq_2) <| And.intro h <| he2) ct17B ?_
    exact AWP.ret (Fin (And.intro @vwN.eq_def <| @List.map_nil.{0, 0}) [] [0, 1, 6])
theorem vblock_c (l : List TCoin) (ts : List TTx) (ht : UInt32) (h : l.length ≤ 400000) (h2 : lowL l = true) (h3 : ts.length ≤ 10000) : G17B [.bx (.st [.own 1]), .sq 37 (l.map coinT)] [.ptr 0 0 [], .t (.sq 4 (ts.map txT)), .t (.int .u32 (ht.toNat : Int))] = some (vwN (blockV l ts ht).1, .tup [.t (.sq 37 ((blockV l ts ht).2.1.map coinT)), .t (.int .i64 (blockV l ts ht).2.2)]) := by
  show G17B (vwH l) [.ptr 0 0 [], .t (txsT ts), .t (h32T ht)] = _
  simp only [G17B, inv_of vwH_inj, inv_of txsT_inj, inv_of h32T_inj]
  exact if_pos ⟨h, h2, h3⟩

end Go.Fw

end

section
/- view: a block undone. -/
namespace Go.Fw
open Go Go.Proofs
set_option linter.unusedVariables false
set_option linter.unusedSimpArgs false

theorem lowL_cut {sp : List TCoin} (h : lowL sp = true) (i j : Nat) : lowL ((sp.take i).drop j) = true := lowL_drop (lowL_take h i) j

/-- What Undo's trial is lent. -/
structure UdX where
  l : List TCoin
  sp : List TCoin
  ts : List TTx
noncomputable def udH (x : UdX) : List Blk := [.bx (.st [.own 1]), .sq 37 (x.l.map coinT), .bx (.t (coinsT x.sp)), .bx (.t (txsT x.ts)), .bx (.t (.fn 35))]
theorem udH_inj (a b : UdX) (h : udH a = udH b) : a = b := by
  obtain ⟨l1, t1, f1⟩ := a
  obtain ⟨l2, t2, f2⟩ := b
  simp only [udH, List.cons.injEq, Blk.sq.injEq, Blk.bx.injEq, AV.t.injEq, true_and, and_true] at h
  obtain ⟨g1, g2, g3⟩ := h
  rw [coins_inj _ _ g1, coinsT_inj _ _ g2, txsT_inj _ _ g3]
noncomputable def udN (x : UdX) (l : List TCoin) : List Blk := [.bx (.st [.own 5]), .no, .bx (.t (coinsT x.sp)), .bx (.t (txsT x.ts)), .bx (.t (.fn 35)), .sq 37 (l.map coinT)]
noncomputable def ud1 (x : UdX) : List TCoin × Int := undV nmH x.ts x.sp x.ts.length x.l
def fewIn (t : TTx) : Bool := decide (t.ins.length ≤ 10000)
def UdX.ok (x : UdX) : Prop := x.l.length ≤ 300000 ∧ lowL x.l = true ∧ x.sp.length ≤ 10000 ∧ lowL x.sp = true ∧ x.ts.length ≤ 10000 ∧ x.ts.all fewIn = true
def UdX.fit (x : UdX) : Prop := cumN x.ts x.ts.length = x.sp.length

theorem few_get {ts : List TTx} (h : ts.all fewIn = true) {i : Nat} (hi : i < ts.length) : (ts.getD i dTx).ins.length ≤ 10000 := by
  have := List.all_eq_true.1 h (ts.getD i dTx) (by simp [List.getD_eq_getElem?_getD, hi])
  exact of_decide_eq_true this
theorem insR_len (t : TTx) (f : Bool) : (insR t f).length ≤ t.ins.length := by unfold insR; split <;> simp

noncomputable def G36 : GFun
  | HB, [.ptr 0 0 [], .ptr 2 0 [], .ptr 3 0 [], .ptr 4 0 []] => match inv udH HB with
    | some x => @ite _ ((x.ok ∧ x.fit)) (Classical.propDecidable _) ((some (udN x (ud1 x).1, .t (.int .i64 (ud1 x).2)))) none
    | none => none
  | _, _ => none

theorem ct36 : CT [(34, ⟨[false, false], treeG F34⟩), (35, ⟨[true, false, false, false], G35⟩)] [0, 1, 2, 3, 5, 6, 7, 8, 9, 15, 42] [(6, [⟨1, [3], [], []⟩, ⟨0, [0], [], []⟩, ⟨1, [2], [], []⟩, ⟨0, [7], [], []⟩, ⟨1, [31, 32], [2], []⟩, ⟨1, [33], [2, 4], []⟩, ⟨0, [7], [], []⟩, ⟨0, [35], [], []⟩, ⟨0, [6], [], []⟩, ⟨0, [8], [], []⟩, ⟨1, [37, 38], [], []⟩, ⟨2, [29, 30, 34, 36, 39], [0, 2, 4, 5, 10], []⟩, ⟨0, [40], [0, 2, 4, 5, 10, 11], []⟩])] := ⟨(.cons c34.g (.cons g35 (.nil _)))⟩

set_option maxHeartbeats 4000000 in
theorem g36 : GCon Try.prog 36 G36 := by
  refine gconc E_ok (rs := [.tmp 5 30]) Try.func36 rfl Try.ntmps36 (by kernel_rfl) rfl (by decide) G36 (np := 4) ?_ ?_
  · intro HB xs h; unfold G36; split <;> first | rfl | (simp at h; done)
  intro HB xs H r hG hwf hex
  unfold G36 at hG
  split at hG <;> try (cases hG; done)
  split at hG <;> try (cases hG; done)
  rename_i x hx
  split at hG
  case isFalse => cases hG
  rename_i hcc
  cases hG
  obtain ⟨⟨hlen, hlow, hspl, hlows, htl, hfew⟩, hfit⟩ := hcc
  obtain rfl := inv_inv hx
  obtain ⟨l, sp, ts⟩ := x
  have hfit2 : cumN ts ts.length = sp.length := hfit
  dsimp only at hlen hlow hspl hlows htl hfew
  have hmt : (ts.map txT).length = ts.length := List.length_map ..
  have hms : (sp.map coinT).length = sp.length := List.length_map ..
  obtain ⟨R, hR⟩ : ∃ R, undV nmH ts sp ts.length l = R := ⟨_, rfl⟩
  simp only [udH, udN, ud1, coinsT, txsT, hR]
  have hw0 : IntKind.i64.wrap ((ts.length : Int) - 1) = (ts.length : Int) - 1 := by rw [wrap_i64 (by omega) (by omega)]
  have htk : (sp.take (cumN ts ts.length)).map coinT = sp.map coinT := by rw [hfit2, List.take_length]
  refine AWP.weak (Weak.moveBx (v' := _) 0 1 [0] 0 _ rfl rfl rfl (by decide) (by simp only [W, eqq, ↓reduceIte, Nat.reduceEqDiff, Nat.reduceLT, Nat.reduceLeDiff, Nat.reduceAdd, Nat.reduceMul, Nat.reduceSub, Nat.reduceBEq, Int.reduceLE, Int.reduceLT, Int.reduceNeg, Int.reduceToNat, Int.reduceEq, Int.reduceBEq, Int.reduceBNe, Nat.reduceBNe, bne_self_eq_false, reduceCtorEq, gt_iff_lt, ge_iff_le]) (by simp only [W, eqq, ↓reduceIte, Nat.reduceEqDiff, Nat.reduceLT, Nat.reduceLeDiff, Nat.reduceAdd, Nat.reduceMul, Nat.reduceSub, Nat.reduceBEq, Int.reduceLE, Int.reduceLT, Int.reduceNeg, Int.reduceToNat, Int.reduceEq, Int.reduceBEq, Int.reduceBNe, Nat.reduceBNe, bne_self_eq_false, reduceCtorEq, gt_iff_lt, ge_iff_le]) (by simp only [W, eqq, ↓reduceIte, Nat.reduceEqDiff, Nat.reduceLT, Nat.reduceLeDiff, Nat.reduceAdd, Nat.reduceMul, Nat.reduceSub, Nat.reduceBEq, Int.reduceLE, Int.reduceLT, Int.reduceNeg, Int.reduceToNat, Int.reduceEq, Int.reduceBEq, Int.reduceBNe, Nat.reduceBNe, bne_self_eq_false, reduceCtorEq, gt_iff_lt, ge_iff_le]; rfl)) ?_
  repeat refine St (And.intro (And.intro @gentry.eq_1 <| @gentry.eq_2) <| And.intro hmt <| hw0) ct36 ?_
  refine AWP.loop (G := { x : Nat × List TCoin // x.1 ≤ ts.length ∧ x.2.length + cumN ts x.1 ≤ 300000 + sp.length ∧ lowL x.2 = true ∧ undV nmH ts sp x.1 x.2 = R }) (fun x => ⟨[(0, .ptr 0 0 []), (1, .ptr 2 0 []), (2, .ptr 3 0 []), (3, .ptr 4 0 []), (6, .t (.sq 37 ((sp.take (cumN ts x.1.1)).map coinT))), (7, .t (.int .i64 ((x.1.1 : Int) - 1)))], [.bx (.st [.own 5]), .no, .bx (.t (.sq 37 (sp.map coinT))), .bx (.t (.sq 4 (ts.map txT))), .bx (.t (.fn 35)), .sq 37 (x.1.2.map coinT)]⟩) (fun x => x.1.1) ⟨⟨ts.length, l⟩, Nat.le_refl _, by show l.length + cumN ts ts.length ≤ 300000 + sp.length; omega, hlow, hR⟩ (Wt htk [0, 1, 2, 3, 6, 7] [0, 1, 2, 3, 4, 5]) ?_
  rintro ⟨⟨i1, L⟩, hi, hL, hLl, hT⟩
  dsimp only at hi hL hLl hT ⊢
  clear hR hw0 htk
  cases i1 with
  | zero =>
    have hge : ((0 : Int) ≤ ((0 : Nat) : Int) - 1) = False := eq_false (by omega)
    rw [undV] at hT
    subst hT
    dsimp only
    repeat refine St hge ct36 ?_
    exact AWP.ret (Fin trivial [] [0, 1, 2, 3, 4, 5])
  | succ i =>
  have hzi : ((i + 1 : Nat) : Int) - 1 = (i : Int) := by omega
  have hge : ((0 : Int) ≤ (i : Int)) = True := eq_true (by omega)
  have hlt : i < ts.length := by omega
  have hlt2 : (i : Int) < (ts.length : Int) := by omega
  have hw1 : IntKind.i64.wrap ((i : Int) - 1) = (i : Int) - 1 := by rw [wrap_i64 (by omega) (by omega)]
  have hb0 : ((i : Int) == 0) = decide (i = 0) := by
    rw [Bool.eq_iff_iff, beq_iff_eq, decide_eq_true_eq]; omega
  have hg := txs_getD ts i hlt
  have hfi := few_get hfew hlt
  have hin := inputs_c (ts.getD i dTx) (decide (i = 0)) (by omega)
  have hcm : cumN ts (i + 1) = cumN ts i + (insR (ts.getD i dTx) (decide (i = 0))).length := rfl
  have hcle : cumN ts (i + 1) ≤ sp.length := by rw [← hfit2]; exact cumN_mono ts (by omega)
  have hcut : ((sp.take (cumN ts (i + 1))).drop (cumN ts i)).length = cumN ts (i + 1) - cumN ts i := by
    rw [List.length_drop, List.length_take]; omega
  have hrv := rev_c L (ts.getD i dTx) (decide (i = 0)) ((sp.take (cumN ts (i + 1))).drop (cumN ts i)) (by omega) hLl (by omega) (lowL_cut hlows _ _) hfi
  obtain ⟨b1, b2⟩ := revV_ok hLl (ts.getD i dTx) (nmH (ts.getD i dTx)) (decide (i = 0)) (lowL_cut hlows (cumN ts (i + 1)) (cumN ts i))
  rw [undV] at hT
  have hml : ((sp.take (cumN ts (i + 1))).map coinT).length = cumN ts (i + 1) := by rw [List.length_map, List.length_take]; omega
  have hmr : ((insR (ts.getD i dTx) (decide (i = 0))).map rfT).length = (insR (ts.getD i dTx) (decide (i = 0))).length := List.length_map ..
  have hw2 : IntKind.i64.wrap ((cumN ts (i + 1) : Int) - ((insR (ts.getD i dTx) (decide (i = 0))).length : Int)) = (cumN ts i : Int) := by rw [wrap_i64 (by omega) (by omega)]; omega
  have hc1 : ((sp.take (cumN ts (i + 1))).map coinT).drop (cumN ts i) = ((sp.take (cumN ts (i + 1))).drop (cumN ts i)).map coinT := by rw [List.map_drop]
  have hc2 : ((sp.take (cumN ts (i + 1))).map coinT).take (cumN ts i) = (sp.take (cumN ts i)).map coinT := by
    rw [← List.map_take, List.take_take, Nat.min_eq_left (by omega)]
  have hci : cumN ts i ≤ cumN ts (i + 1) := by omega
  have hci2 : (cumN ts i : Int) ≤ (cumN ts (i + 1) : Int) := by omega
  have hci3 : (0 : Int) ≤ (cumN ts i : Int) := by omega
  rw [txT_st] at hg hrv
  simp only [refsT] at hin
  rw [hzi]
  rw [hcut] at b2
  clear hcut hfit2 hfit hcm hfi hlow hlen
  generalize (sp.take (cumN ts (i + 1))).drop (cumN ts i) = cu at *
  generalize ts.getD i dTx = t at *
  generalize (sp.take (cumN ts (i + 1))).map coinT = Y at *
  generalize insR t (decide (i = 0)) = I at *
  generalize I.map rfT = J at *
  obtain ⟨f, hf⟩ : ∃ f, decide (i = 0) = f := ⟨_, rfl⟩
  rw [hf] at hb0 hin hrv hT b1 b2
  generalize revV L t (nmH t) f cu = Z at *
  obtain ⟨L', e⟩ := Z
  dsimp only at hT hrv b1 b2
  simp only [vwN] at hrv
  by_cases he : e = 0
  · subst he
    rw [if_neg (by simp)] at hT
    have hd0 : ((0 : Int) != 0) = false := rfl
    repeat refine St (And.intro hge <| And.intro hlt <| And.intro hlt2 <| And.intro hmt <| And.intro hg <| And.intro hb0 <| And.intro hin <| And.intro hml <| And.intro hmr <| And.intro hw2 <| And.intro hc1 <| And.intro hc2 <| And.intro hci <| And.intro hci2 <| And.intro hci3 <| And.intro hrv <| And.intro hd0 <| hw1) ct36 ?_
    exact ⟨⟨⟨i, L'⟩, by show i ≤ ts.length; omega, by show L'.length + cumN ts i ≤ 300000 + sp.length; omega, b1, hT⟩, (Wt trivial [0, 1, 2, 3, 6, 7] [0, 1, 2, 3, 4, 6]), by simp only; omega⟩
  · rw [if_pos he] at hT
    have he2 : (e != 0) = true := by simpa using he
    subst hT
    dsimp only
    repeat refine St (And.intro hge <| And.intro hlt <| And.intro hlt2 <| And.intro hmt <| And.intro hg <| And.intro hb0 <| And.intro hin <| And.intro hml <| And.intro hmr <| And.intro hw2 <| And.intro hc1 <| And.intro hc2 <| And.intro hci <| And.intro hci2 <| And.intro hci3 <| And.intro hrv <| And.intro he2 <| hw1) ct36 ?_
    exact AWP.ret (Fin trivial [] [0, 1, 2, 3, 4, 6])

theorem ud1_c (x : UdX) (h : x.ok) (h2 : x.fit) : G36 (udH x) [.ptr 0 0 [], .ptr 2 0 [], .ptr 3 0 [], .ptr 4 0 []] = some (udN x (ud1 x).1, .t (.int .i64 (ud1 x).2)) := by
  simp only [G36, inv_of udH_inj]
  exact if_pos ⟨h, h2⟩

/-- The trial of Undo. -/
noncomputable def G32U : GFun
  | HB, [.ptr 0 0 [], .clo 36 [.ptr 2 0 [], .ptr 3 0 [], .ptr 4 0 []]] => match inv udH HB with
    | some x => @ite _ ((x.ok ∧ x.fit)) (Classical.propDecidable _) ((some (udN x (if (ud1 x).2 = 0 then (ud1 x).1 else x.l), .t (.int .i64 (ud1 x).2)))) none
    | none => none
  | _, _ => none

theorem ct32U : CT [(36, ⟨[true, true, true, true], G36⟩), (47, ⟨[true], G47⟩)] [0, 1, 4, 5, 6, 18] [] := ⟨(.cons g36 (.cons g47 (.nil _)))⟩

set_option maxHeartbeats 4000000 in
theorem g32U : GCon Try.prog 32 G32U := by
  refine gconc E_ok (rs := [.tmp 4 30]) Try.func32 rfl Try.ntmps32 (by kernel_rfl) rfl (by decide) G32U (np := 2) ?_ ?_
  · intro HB xs h; unfold G32U; split <;> first | rfl | (simp at h; done)
  intro HB xs H r hG hwf hex
  unfold G32U at hG
  split at hG <;> try (cases hG; done)
  
  split at hG <;> try (cases hG; done)
  rename_i x hx
  split at hG
  case isFalse => cases hG
  rename_i hcc
  cases hG
  obtain rfl := inv_inv hx
  have h := ud1_c x hcc.1 hcc.2
  have hcl := clone_vc x.l (by have := hcc.1.1; omega)
  generalize ud1 x = R at *
  obtain ⟨l, sp, ts⟩ := x
  obtain ⟨L, e⟩ := R
  dsimp only at h hcl ⊢
  simp only [udH, udN, coinsT, txsT] at h ⊢
  by_cases he : e = 0
  · subst he
    rw [if_pos rfl]
    have he2 : ((0 : Int) == 0) = true := rfl
    repeat refine St (And.intro (And.intro @gentry.eq_1 <| @gentry.eq_2) <| And.intro hcl <| And.intro h <| he2) ct32U ?_
    refine AWP.weak (Weak.drop 1 _ rfl rfl) ?_
    exact AWP.ret (Fin trivial [] [0, 1, 2, 3, 4, 7])
  · rw [if_neg he]
    have he2 : (e == 0) = false := by simpa using he
    repeat refine St (And.intro (And.intro @gentry.eq_1 <| @gentry.eq_2) <| And.intro hcl <| And.intro h <| he2) ct32U ?_
    refine AWP.weak (Weak.moveBx (v' := _) 0 1 [0] 0 _ rfl rfl rfl (by decide) (by simp only [W, eqq, ↓reduceIte, Nat.reduceEqDiff, Nat.reduceLT, Nat.reduceLeDiff, Nat.reduceAdd, Nat.reduceMul, Nat.reduceSub, Nat.reduceBEq, Int.reduceLE, Int.reduceLT, Int.reduceNeg, Int.reduceToNat, Int.reduceEq, Int.reduceBEq, Int.reduceBNe, Nat.reduceBNe, bne_self_eq_false, reduceCtorEq, gt_iff_lt, ge_iff_le]) (by simp only [W, eqq, ↓reduceIte, Nat.reduceEqDiff, Nat.reduceLT, Nat.reduceLeDiff, Nat.reduceAdd, Nat.reduceMul, Nat.reduceSub, Nat.reduceBEq, Int.reduceLE, Int.reduceLT, Int.reduceNeg, Int.reduceToNat, Int.reduceEq, Int.reduceBEq, Int.reduceBNe, Nat.reduceBNe, bne_self_eq_false, reduceCtorEq, gt_iff_lt, ge_iff_le]) (by simp only [W, eqq, ↓reduceIte, Nat.reduceEqDiff, Nat.reduceLT, Nat.reduceLeDiff, Nat.reduceAdd, Nat.reduceMul, Nat.reduceSub, Nat.reduceBEq, Int.reduceLE, Int.reduceLT, Int.reduceNeg, Int.reduceToNat, Int.reduceEq, Int.reduceBEq, Int.reduceBNe, Nat.reduceBNe, bne_self_eq_false, reduceCtorEq, gt_iff_lt, ge_iff_le]; rfl)) ?_
    exact AWP.ret (Fin trivial [] [0, 1, 2, 3, 4, 8])

theorem trialU_c (x : UdX) (h : x.ok) (h2 : x.fit) : G32U (udH x) [.ptr 0 0 [], .clo 36 [.ptr 2 0 [], .ptr 3 0 [], .ptr 4 0 []]] = some (udN x (if (ud1 x).2 = 0 then (ud1 x).1 else x.l), .t (.int .i64 (ud1 x).2)) := by
  simp only [G32U, inv_of udH_inj]
  exact if_pos ⟨h, h2⟩

/-- A block undone, or nothing changed. -/
noncomputable def undoV (l : List TCoin) (ts : List TTx) (sp : List TCoin) : List TCoin × Int :=
  if cumN ts ts.length = sp.length then (if (ud1 ⟨l, sp, ts⟩).2 = 0 then (ud1 ⟨l, sp, ts⟩).1 else l, (ud1 ⟨l, sp, ts⟩).2) else (l, 1)
noncomputable def G19U : GFun
  | HB, [.ptr 0 0 [], .t x, .t y] => match inv vwH HB, inv txsT x, inv coinsT y with
    | some l, some ts, some sp => @ite _ ((UdX.ok ⟨l, sp, ts⟩)) (Classical.propDecidable _) ((some (vwN (undoV l ts sp).1, .t (.int .i64 (undoV l ts sp).2)))) none
    | _, _, _ => none
  | _, _ => none

theorem ct19U : CT [(32, ⟨[true, true], G32U⟩), (34, ⟨[false, false], treeG F34⟩), (35, ⟨[true, false, false, false], G35⟩)] [0, 1, 2, 4, 5, 6, 7, 8, 9, 10, 12, 13, 14, 15, 16, 31] [] := ⟨(.cons g32U (.cons c34.g (.cons g35 (.nil _))))⟩

set_option maxHeartbeats 4000000 in
theorem g19U : GCon Try.prog 19 G19U := by
  refine gconc E_ok (rs := [.tmp 6 30]) Try.func19 rfl Try.ntmps19 (by kernel_rfl) rfl (by decide) G19U (np := 3) ?_ ?_
  · intro HB xs h; unfold G19U; split <;> first | rfl | (simp at h; done)
  intro HB xs H r hG hwf hex
  unfold G19U at hG
  split at hG <;> try (cases hG; done)
  
  rename_i x y
  split at hG <;> try (cases hG; done)
  rename_i l ts sp hl htx hsp
  split at hG
  case isFalse => cases hG
  rename_i hcc
  cases hG
  obtain rfl := inv_inv hl
  obtain rfl := inv_inv htx
  obtain rfl := inv_inv hsp
  obtain ⟨hlen, hlow, hspl, hlows, htl, hfew⟩ := hcc
  dsimp only at hlen hlow hspl hlows htl hfew
  have hmt : (ts.map txT).length = ts.length := List.length_map ..
  have hms : (sp.map coinT).length = sp.length := List.length_map ..
  have hcb : ∀ i, i ≤ ts.length → cumN ts i ≤ 10000 * i := by
    intro i
    induction i with
    | zero => intro _; exact Nat.le_refl _
    | succ i ih =>
      intro hi
      have h1 := ih (by omega)
      have h2 := insR_len (ts.getD i dTx) (decide (i = 0))
      have h3 := few_get hfew (show i < ts.length by omega)
      show cumN ts i + (insR (ts.getD i dTx) (decide (i = 0))).length ≤ _
      omega
  simp only [vwH, coinsT, txsT]
  repeat refine St (And.intro (And.intro @gentry.eq_1 <| @gentry.eq_2) <| hmt) ct19U ?_
  refine AWP.loop (G := { i : Nat // i ≤ ts.length }) (fun i => ⟨[(0, .ptr 0 0 []), (4, .ptr 2 0 []), (5, .ptr 3 0 []), (7, .t (.int .i64 (cumN ts i.1 : Int))), (13, .t (.sq 4 (ts.map txT))), (14, .t (.int .i64 (ts.length : Int))), (15, .t (.int .i64 (i.1 : Int)))], [.bx (.st [.own 1]), .sq 37 (l.map coinT), .bx (.t (.sq 4 (ts.map txT))), .bx (.t (.sq 37 (sp.map coinT)))]⟩) (fun i => ts.length - i.1) ⟨0, Nat.zero_le _⟩ (Wt (And.intro @cumN.eq_1 <| @cumN.eq_2) [0, 4, 5, 7, 13, 14, 15] [0, 1, 2, 3]) ?_
  rintro ⟨i, hi⟩
  dsimp only
  by_cases hlt : i < ts.length
  · have hlt2 : (i : Int) < (ts.length : Int) := by omega
    have hw1 : IntKind.i64.wrap ((i : Int) + 1) = ((i + 1 : Nat) : Int) := by rw [wrap_i64 (by omega) (by omega)]; omega
    have hb0 : ((i : Int) == 0) = decide (i = 0) := by
      rw [Bool.eq_iff_iff, beq_iff_eq, decide_eq_true_eq]; omega
    have hg := txs_getD ts i hlt
    have hfi := few_get hfew hlt
    have hin := inputs_c (ts.getD i dTx) (decide (i = 0)) (by omega)
    have hmr : ((insR (ts.getD i dTx) (decide (i = 0))).map rfT).length = (insR (ts.getD i dTx) (decide (i = 0))).length := List.length_map ..
    have hcm : cumN ts (i + 1) = cumN ts i + (insR (ts.getD i dTx) (decide (i = 0))).length := rfl
    have h1 := hcb i hi
    have h2 := insR_len (ts.getD i dTx) (decide (i = 0))
    have hw2 : IntKind.i64.wrap ((cumN ts i : Int) + ((insR (ts.getD i dTx) (decide (i = 0))).length : Int)) = (cumN ts (i + 1) : Int) := by rw [wrap_i64 (by omega) (by omega)]; omega
    rw [txT_st] at hg
    simp only [refsT] at hin
    clear hcm hcb h1 h2 hfi
    generalize ts.getD i dTx = t at *
    generalize insR t (decide (i = 0)) = I at *
    generalize I.map rfT = J at *
    obtain ⟨f, hf⟩ : ∃ f, decide (i = 0) = f := ⟨_, rfl⟩
    rw [hf] at hb0 hin
    repeat refine St (And.intro hlt <| And.intro hlt2 <| And.intro hmt <| And.intro hg <| And.intro hb0 <| And.intro hin <| And.intro hmr <| And.intro hw2 <| hw1) ct19U ?_
    exact ⟨⟨i + 1, by omega⟩, (Wt trivial [0, 4, 5, 7, 13, 14, 15] [0, 1, 2, 3]), by simp only; omega⟩
  obtain rfl : i = ts.length := by omega
  have hlt2 : ¬ (ts.length : Int) < (ts.length : Int) := by omega
  unfold undoV
  by_cases hfit : cumN ts ts.length = sp.length
  · have h := trialU_c ⟨l, sp, ts⟩ ⟨hlen, hlow, hspl, hlows, htl, hfew⟩ hfit
    have hne : ((cumN ts ts.length : Int) != (sp.length : Int)) = false := by
      rw [bne_eq_false_iff_eq]; omega
    rw [if_pos hfit]
    generalize ud1 ⟨l, sp, ts⟩ = R at *
    obtain ⟨L, e⟩ := R
    dsimp only at h ⊢
    generalize (if e = 0 then L else l) = Z at *
    simp only [udH, udN, coinsT, txsT] at h
    repeat refine St (And.intro hlt2 <| And.intro hms <| And.intro hne <| h) ct19U ?_
    exact AWP.ret (Fin @vwN.eq_def [] [0, 1, 5])
  · have hne : ((cumN ts ts.length : Int) != (sp.length : Int)) = true := by
      rw [bne_iff_ne]; omega
    rw [if_neg hfit]
    dsimp only
    repeat refine St (And.intro hlt2 <| And.intro hms <| hne) ct19U ?_
    refine AWP.weak (Weak.moveBx (v' := _) 0 1 [0] 0 _ rfl rfl rfl (by decide) (by simp only [W, eqq, ↓reduceIte, Nat.reduceEqDiff, Nat.reduceLT, Nat.reduceLeDiff, Nat.reduceAdd, Nat.reduceMul, Nat.reduceSub, Nat.reduceBEq, Int.reduceLE, Int.reduceLT, Int.reduceNeg, Int.reduceToNat, Int.reduceEq, Int.reduceBEq, Int.reduceBNe, Nat.reduceBNe, bne_self_eq_false, reduceCtorEq, gt_iff_lt, ge_iff_le]) (by simp only [W, eqq, ↓reduceIte, Nat.reduceEqDiff, Nat.reduceLT, Nat.reduceLeDiff, Nat.reduceAdd, Nat.reduceMul, Nat.reduceSub, Nat.reduceBEq, Int.reduceLE, Int.reduceLT, Int.reduceNeg, Int.reduceToNat, Int.reduceEq, Int.reduceBEq, Int.reduceBNe, Nat.reduceBNe, bne_self_eq_false, reduceCtorEq, gt_iff_lt, ge_iff_le]) (by simp only [W, eqq, ↓reduceIte, Nat.reduceEqDiff, Nat.reduceLT, Nat.reduceLeDiff, Nat.reduceAdd, Nat.reduceMul, Nat.reduceSub, Nat.reduceBEq, Int.reduceLE, Int.reduceLT, Int.reduceNeg, Int.reduceToNat, Int.reduceEq, Int.reduceBEq, Int.reduceBNe, Nat.reduceBNe, bne_self_eq_false, reduceCtorEq, gt_iff_lt, ge_iff_le]; rfl)) ?_
    exact AWP.ret (Fin @vwN.eq_def [] [0, 1, 4])
theorem undo_c (l : List TCoin) (ts : List TTx) (sp : List TCoin) (h : UdX.ok ⟨l, sp, ts⟩) : G19U [.bx (.st [.own 1]), .sq 37 (l.map coinT)] [.ptr 0 0 [], .t (.sq 4 (ts.map txT)), .t (.sq 37 (sp.map coinT))] = some (vwN (undoV l ts sp).1, .t (.int .i64 (undoV l ts sp).2)) := by
  show G19U (vwH l) [.ptr 0 0 [], .t (txsT ts), .t (coinsT sp)] = _
  simp only [G19U, inv_of vwH_inj, inv_of txsT_inj, inv_of coinsT_inj]
  exact if_pos h

end Go.Fw

end

section
/- Chapter 25: an act on a view; which acts may be asked about. -/
namespace Go.Fw
open Go Go.Proofs
set_option linter.unusedVariables false
set_option linter.unusedSimpArgs false

def smV (a : VAct) : Bool := okCs a.sp && okCs [a.c] && smallBl a.txs && smallBl [a.t]
noncomputable def F20 : Fun
  | [x] => match inv vactT x with
    | some a => some ([], .t (.bool (smV a)))
    | none => none
  | _ => none

theorem ct20 : CT [(7, ⟨[false], treeG F7⟩), (16, ⟨[false], treeG F16⟩)] [0, 1, 2] [] := ⟨(.cons c7.g (.cons c16.g (.nil _)))⟩

theorem vactT_st (a : VAct) : vactT a = .st [.int .i64 a.k, .st [.st [.ba 32 a.c.r.h.1, .int .u32 (a.c.r.i.toNat : Int)], .st [.int .u64 (a.c.out.val.toNat : Int), .by a.c.out.scr], .int .u32 (a.c.ht.toNat : Int), .bool a.c.first],
    .st [.int .u32 (a.t.ver.toNat : Int), .sq 35 (a.t.ins.map inT), .sq 2 (a.t.outs.map outT), .int .u32 (a.t.lock.toNat : Int)], .sq 4 (a.txs.map txT), .int .u32 (a.ht.toNat : Int), .bool a.first, .sq 37 (a.sp.map coinT)] := rfl

set_option maxHeartbeats 2000000 in
theorem c20 : ACon Try.prog 20 F20 := by
  refine aconc E_ok (rs := [.tmp 2 4]) Try.func20 rfl Try.ntmps20 (by kernel_rfl) rfl (by decide) F20 (np := 1) ?_ ?_
  · intro ts h; unfold F20; split <;> first | rfl | (simp at h; done)
  intro ts H r hF hwf
  unfold F20 at hF
  split at hF <;> try (cases hF; done)
  split at hF <;> try (cases hF; done)
  rename_i a ha
  cases hF
  obtain rfl := inv_inv ha
  have h1 := coins_cc a.sp
  have h2 := coins_cc [a.c]
  have h3 := rsmallb_c a.txs
  have h4 := rsmallb_c [a.t]
  simp only [List.map_cons, List.map_nil] at h2 h4
  have hs : smV a = (okCs a.sp && okCs [a.c] && smallBl a.txs && smallBl [a.t]) := rfl
  rw [hs, vactT_st]
  rw [coinT_st] at h2
  rw [txT_st] at h4
  cases c1 : okCs a.sp with
  | false =>
    rw [c1] at h1
    repeat refine St h1 ct20 ?_
    exact AWP.ret (Fin trivial [] [])
  | true =>
  rw [c1] at h1
  cases c2 : okCs [a.c] with
  | false =>
    rw [c2] at h2
    repeat refine St (And.intro h1 <| h2) ct20 ?_
    exact AWP.ret (Fin trivial [] [])
  | true =>
  rw [c2] at h2
  cases c3 : smallBl a.txs with
  | false =>
    rw [c3] at h3
    repeat refine St (And.intro h1 <| And.intro h2 <| h3) ct20 ?_
    exact AWP.ret (Fin trivial [] [])
  | true =>
  rw [c3] at h3
  cases c4 : smallBl [a.t] with
  | false =>
    rw [c4] at h4
    repeat refine St (And.intro h1 <| And.intro h2 <| And.intro h3 <| h4) ct20 ?_
    exact AWP.ret (Fin trivial [] [])
  | true =>
  rw [c4] at h4
  repeat refine St (And.intro h1 <| And.intro h2 <| And.intro h3 <| h4) ct20 ?_
  exact AWP.ret (Fin trivial [] [])
theorem small_cc (a : VAct) : F20 [vactT a] = some ([], .t (.bool (smV a))) := by
  simp only [F20, inv_of vactT_inj]

/-- What an act leaves and tells. -/
noncomputable def doV (l : List TCoin) (a : VAct) : List TCoin × List TCoin × Int :=
  if a.k = 1 then ((addV l a.c).1, [], (addV l a.c).2)
  else if a.k = 2 then ((spdV l a.c.r).1, [(spdV l a.c.r).2.1], (spdV l a.c.r).2.2)
  else if a.k = 3 then ((appV l a.t a.ht a.first).1, (appV l a.t a.ht a.first).2.1, (appV l a.t a.ht a.first).2.2)
  else if a.k = 4 then ((revertV l a.t a.first a.sp).1, [], (revertV l a.t a.first a.sp).2)
  else if a.k = 5 then ((blockV l a.txs a.ht).1, (blockV l a.txs a.ht).2.1, (blockV l a.txs a.ht).2.2)
  else if a.k = 6 then ((undoV l a.txs a.sp).1, [], (undoV l a.txs a.sp).2)
  else (l, [], 0)
def toldT (l : List TCoin) (e : Int) : T := .st [.sq 37 (l.map coinT), .int .i64 e]
def VAct.ok (a : VAct) : Prop := lowC a.c = true ∧ lowL a.sp = true ∧ a.sp.length ≤ 1000 ∧ a.txs.length ≤ 8 ∧ a.txs.all fewIn = true ∧ a.t.ins.length ≤ 10000

noncomputable def G22 : GFun
  | HB, [.ptr 0 0 [], .t x] => match inv vwH HB, inv vactT x with
    | some l, some a => @ite _ ((l.length ≤ 300000 ∧ lowL l = true ∧ a.ok)) (Classical.propDecidable _) ((some (vwN (doV l a).1, .t (toldT (doV l a).2.1 (doV l a).2.2)))) none
    | _, _ => none
  | _, _ => none

theorem ct22 : CT [(14, ⟨[true, false], G14⟩), (17, ⟨[true, false, false], G17B⟩), (19, ⟨[true, false, false], G19U⟩), (23, ⟨[true, false, false, false], G23⟩), (24, ⟨[true, false], G24⟩), (25, ⟨[true, false, false, false], G25R⟩)] [0, 1, 3, 4, 5, 6, 7, 8, 9, 10, 12, 13, 20, 34, 50, 61, 75] [] := ⟨(.cons g14 (.cons g17B (.cons g19U (.cons g23 (.cons g24 (.cons g25R (.nil _)))))))⟩

set_option maxRecDepth 8000 in
set_option maxHeartbeats 8000000 in
theorem g22 : GCon Try.prog 22 G22 := by
  refine gconc E_ok (rs := [.cell 4 64]) Try.func22 rfl Try.ntmps22 (by kernel_rfl) rfl (by decide) G22 (np := 2) ?_ ?_
  · intro HB xs h; unfold G22; split <;> first | rfl | (simp at h; done)
  intro HB xs H r hG hwf hex
  unfold G22 at hG
  split at hG <;> try (cases hG; done)
  rename_i x
  split at hG <;> try (cases hG; done)
  rename_i l a hl ha
  split at hG
  case isFalse => cases hG
  rename_i hcc
  cases hG
  obtain ⟨hlen, hlow, o1, o2, o3, o4, o5, o6⟩ := hcc
  obtain rfl := inv_inv hl
  obtain rfl := inv_inv ha
  rw [vactT_st]
  simp only [vwH]
  have ne : ∀ {k : Int} {z : Int}, ¬ k = z → (k == z) = false := fun h => by simpa using h
  unfold doV
  by_cases k1 : a.k = 1
  · have h := add_c l a.c (by omega) o1
    rw [k1]
    simp only [if_pos]
    generalize addV l a.c = R at *
    obtain ⟨L, e⟩ := R
    dsimp only at h ⊢
    simp only [vwN] at h
    repeat refine St (And.intro (And.intro @gentry.eq_1 <| @gentry.eq_2) <| h) ct22 ?_
    exact AWP.ret (Fin (And.intro @vwN.eq_def <| And.intro @toldT.eq_def <| @List.map_nil.{0, 0}) [] [0, 1, 4])
  have q1 := ne k1
  by_cases k2 : a.k = 2
  · have h := spend_vc l a.c.r (by omega) hlow
    rw [k2]
    rw [if_neg (by decide), if_pos rfl]
    generalize spdV l a.c.r = R at *
    obtain ⟨L, c, e⟩ := R
    dsimp only at h ⊢
    simp only [vwN] at h
    rw [coinT_st] at h
    repeat refine St (And.intro (And.intro @gentry.eq_1 <| @gentry.eq_2) <| h) ct22 ?_
    refine AWP.weak (Weak.trans (Weak.freeze 6) (Weak.thawBx 3 (y := .st [.sq 37 [.st [.st [.ba 32 c.r.h.1, .int .u32 (c.r.i.toNat : Int)], .st [.int .u64 (c.out.val.toNat : Int), .by c.out.scr], .int .u32 (c.ht.toNat : Int), .bool c.first]], .int .i64 e]) rfl rfl)) ?_
    exact AWP.ret (Fin (And.intro @vwN.eq_def <| And.intro @toldT.eq_def <| And.intro @List.map_cons.{0, 0} <| And.intro @List.map_nil.{0, 0} <| @coinT_st) [] [0, 1, 4])
  have q2 := ne k2
  rw [if_neg k1, if_neg k2]
  by_cases k3 : a.k = 3
  · have h := appl_c l a.t a.ht a.first (by omega) hlow
    rw [k3, if_pos rfl]
    generalize appV l a.t a.ht a.first = R at *
    obtain ⟨L, sp, e⟩ := R
    dsimp only at h ⊢
    simp only [vwN] at h
    rw [txT_st] at h
    repeat refine St (And.intro (And.intro @gentry.eq_1 <| @gentry.eq_2) <| h) ct22 ?_
    exact AWP.ret (Fin (And.intro @vwN.eq_def <| @toldT.eq_def) [] [0, 1, 4])
  have q3 := ne k3
  rw [if_neg k3]
  by_cases k4 : a.k = 4
  · have h := revert_c l a.t a.first a.sp ⟨by show l.length ≤ 400000; omega, hlow, by show a.sp.length ≤ 10000; omega, o2, o6⟩
    rw [k4, if_pos rfl]
    generalize revertV l a.t a.first a.sp = R at *
    obtain ⟨L, e⟩ := R
    dsimp only at h ⊢
    simp only [vwN] at h
    rw [txT_st] at h
    repeat refine St (And.intro (And.intro @gentry.eq_1 <| @gentry.eq_2) <| h) ct22 ?_
    exact AWP.ret (Fin (And.intro @vwN.eq_def <| And.intro @toldT.eq_def <| @List.map_nil.{0, 0}) [] [0, 1, 4])
  have q4 := ne k4
  rw [if_neg k4]
  by_cases k5 : a.k = 5
  · have h := vblock_c l a.txs a.ht (by omega) hlow (by omega)
    rw [k5, if_pos rfl]
    generalize blockV l a.txs a.ht = R at *
    obtain ⟨L, sp, e⟩ := R
    dsimp only at h ⊢
    simp only [vwN] at h
    repeat refine St (And.intro (And.intro @gentry.eq_1 <| @gentry.eq_2) <| h) ct22 ?_
    exact AWP.ret (Fin (And.intro @vwN.eq_def <| @toldT.eq_def) [] [0, 1, 4])
  have q5 := ne k5
  rw [if_neg k5]
  by_cases k6 : a.k = 6
  · have h := undo_c l a.txs a.sp ⟨hlen, hlow, by show a.sp.length ≤ 10000; omega, o2, by show a.txs.length ≤ 10000; omega, o5⟩
    rw [k6, if_pos rfl]
    generalize undoV l a.txs a.sp = R at *
    obtain ⟨L, e⟩ := R
    dsimp only at h ⊢
    simp only [vwN] at h
    repeat refine St (And.intro (And.intro @gentry.eq_1 <| @gentry.eq_2) <| h) ct22 ?_
    exact AWP.ret (Fin (And.intro @vwN.eq_def <| And.intro @toldT.eq_def <| @List.map_nil.{0, 0}) [] [0, 1, 4])
  have q6 := ne k6
  rw [if_neg k6]
  dsimp only
  repeat refine St (And.intro (And.intro @gentry.eq_1 <| @gentry.eq_2) <| And.intro q1 <| And.intro q2 <| And.intro q3 <| And.intro q4 <| And.intro q5 <| q6) ct22 ?_
  refine AWP.weak (Weak.moveBx (v' := _) 0 1 [0] 0 _ rfl rfl rfl (by decide) (by simp only [W, eqq, ↓reduceIte, Nat.reduceEqDiff, Nat.reduceLT, Nat.reduceLeDiff, Nat.reduceAdd, Nat.reduceMul, Nat.reduceSub, Nat.reduceBEq, Int.reduceLE, Int.reduceLT, Int.reduceNeg, Int.reduceToNat, Int.reduceEq, Int.reduceBEq, Int.reduceBNe, Nat.reduceBNe, bne_self_eq_false, reduceCtorEq, gt_iff_lt, ge_iff_le]) (by simp only [W, eqq, ↓reduceIte, Nat.reduceEqDiff, Nat.reduceLT, Nat.reduceLeDiff, Nat.reduceAdd, Nat.reduceMul, Nat.reduceSub, Nat.reduceBEq, Int.reduceLE, Int.reduceLT, Int.reduceNeg, Int.reduceToNat, Int.reduceEq, Int.reduceBEq, Int.reduceBNe, Nat.reduceBNe, bne_self_eq_false, reduceCtorEq, gt_iff_lt, ge_iff_le]) (by simp only [W, eqq, ↓reduceIte, Nat.reduceEqDiff, Nat.reduceLT, Nat.reduceLeDiff, Nat.reduceAdd, Nat.reduceMul, Nat.reduceSub, Nat.reduceBEq, Int.reduceLE, Int.reduceLT, Int.reduceNeg, Int.reduceToNat, Int.reduceEq, Int.reduceBEq, Int.reduceBNe, Nat.reduceBNe, bne_self_eq_false, reduceCtorEq, gt_iff_lt, ge_iff_le]; rfl)) ?_
  exact AWP.ret (Fin (And.intro @vwN.eq_def <| And.intro @toldT.eq_def <| @List.map_nil.{0, 0}) [] [0, 1, 4])
theorem do_c (l : List TCoin) (a : VAct) (h : l.length ≤ 300000) (h2 : lowL l = true) (h3 : a.ok) : G22 [.bx (.st [.own 1]), .sq 37 (l.map coinT)] [.ptr 0 0 [], .t (vactT a)] = some (vwN (doV l a).1, .t (toldT (doV l a).2.1 (doV l a).2.2)) := by
  show G22 (vwH l) [.ptr 0 0 [], .t (vactT a)] = _
  simp only [G22, inv_of vwH_inj, inv_of vactT_inj]
  exact if_pos ⟨h, h2, h3⟩

end Go.Fw

end

section
/- What an act may leave; an act that errs leaves all as it was. -/
namespace Go.Fw
open Go Go.Proofs
set_option linter.unusedVariables false
set_option linter.unusedSimpArgs false

theorem undV_ok (nm : TTx → H32) (ts : List TTx) {sp : List TCoin} (hs : lowL sp = true) : ∀ (i : Nat) (l : List TCoin), lowL l = true → lowL (undV nm ts sp i l).1 = true ∧ (undV nm ts sp i l).1.length ≤ l.length + cumN ts i
  | 0, l, h => ⟨h, by simp [undV]⟩
  | i + 1, l, h => by
    obtain ⟨b1, b2⟩ := revV_ok h (ts.getD i dTx) (nm (ts.getD i dTx)) (decide (i = 0)) (lowL_cut hs (cumN ts (i + 1)) (cumN ts i))
    have hc : ((sp.take (cumN ts (i + 1))).drop (cumN ts i)).length ≤ cumN ts (i + 1) - cumN ts i := by
      rw [List.length_drop, List.length_take]; omega
    have hm : cumN ts i ≤ cumN ts (i + 1) := cumN_mono ts (by omega)
    unfold undV
    split
    · exact ⟨b1, by omega⟩
    · obtain ⟨u1, u2⟩ := undV_ok nm ts hs i _ b1
      exact ⟨u1, by omega⟩
theorem doV_low {l : List TCoin} (h : lowL l = true) {a : VAct} (ha : a.ok) : lowL (doV l a).1 = true ∧ (doV l a).1.length ≤ l.length + 1000 ∧ lowL (doV l a).2.1 = true ∧ (doV l a).2.1.length ≤ 100000 := by
  obtain ⟨o1, o2, o3, o4, o5, o6⟩ := ha
  unfold doV
  split
  · obtain ⟨a1, a2⟩ := addV_ok h o1
    exact ⟨a1, by simp only; omega, rfl, by simp⟩
  split
  · obtain ⟨s1, s2, s3⟩ := spdV_ok h a.c.r
    exact ⟨s1, by simp only; omega, by simp [lowL, s3], by simp⟩
  split
  · obtain ⟨b1, b2, b3, b4⟩ := applyV_ok h a.t (nmH a.t) a.ht a.first
    unfold appV
    dsimp only
    split
    · exact ⟨b1, by omega, b3, by omega⟩
    · exact ⟨h, by omega, b3, by omega⟩
  split
  · obtain ⟨b1, b2⟩ := revV_ok h a.t (nmH a.t) a.first o2
    unfold revertV
    dsimp only
    split
    · exact ⟨b1, by show (revV l a.t (nmH a.t) a.first a.sp).1.length ≤ _; omega, rfl, by simp⟩
    · exact ⟨h, by omega, rfl, by simp⟩
  split
  · obtain ⟨k1, k2, k3, k4⟩ := blkV_ok nmH a.ht a.txs l [] true h rfl
    simp only [List.length_nil, Nat.zero_add] at k4
    have hb : bk1 ⟨l, a.txs, a.ht⟩ = blkV nmH a.ht l a.txs true [] := rfl
    unfold blockV
    rw [hb]
    dsimp only
    split
    · exact ⟨k1, by omega, k3, by omega⟩
    · exact ⟨h, by omega, rfl, by simp⟩
  split
  · obtain ⟨u1, u2⟩ := undV_ok nmH a.txs o2 a.txs.length l h
    unfold undoV
    split
    · rename_i hf
      dsimp only
      split
      · exact ⟨u1, by show (undV nmH a.txs a.sp a.txs.length l).1.length ≤ _; omega, rfl, by simp⟩
      · exact ⟨h, by omega, rfl, by simp⟩
    · exact ⟨h, by simp only; omega, rfl, by simp⟩
  · exact ⟨h, by simp only; omega, rfl, by simp⟩
theorem doV_same {l : List TCoin} {a : VAct} (he : (doV l a).2.2 ≠ 0) : (doV l a).1 = l := by
  unfold doV at he ⊢
  split
  · rename_i h
    rw [if_pos h] at he
    revert he
    unfold addV
    split <;> simp
  rename_i h; rw [if_neg h] at he
  split
  · rename_i h
    rw [if_pos h] at he
    revert he
    unfold spdV
    split <;> simp
  rename_i h; rw [if_neg h] at he
  split
  · rename_i h
    rw [if_pos h] at he
    exact if_neg he
  rename_i h; rw [if_neg h] at he
  split
  · rename_i h
    rw [if_pos h] at he
    exact if_neg he
  rename_i h; rw [if_neg h] at he
  split
  · rename_i h
    rw [if_pos h] at he
    exact if_neg he
  rename_i h; rw [if_neg h] at he
  split
  · rename_i h
    rw [if_pos h] at he
    revert he
    unfold undoV
    split
    · intro he
      exact if_neg he
    · intro _; rfl
  · rfl

theorem small_fewp {ts : List TTx} (h : smallBl ts = true) : ts.length ≤ 8 ∧ ts.all fewIn = true := by
  obtain ⟨h1, h2⟩ := smallBl_ok h
  refine ⟨h1, List.all_eq_true.2 fun t ht => ?_⟩
  obtain ⟨b1, _⟩ := smallT_ok (List.all_eq_true.1 h2 t ht)
  exact decide_eq_true (by omega)
theorem smV_ok {a : VAct} (h : smV a = true) : a.ok := by
  unfold smV at h
  simp only [Bool.and_eq_true] at h
  obtain ⟨⟨⟨h1, h2⟩, h3⟩, h4⟩ := h
  obtain ⟨s1, s2⟩ := okCs_ok h1
  obtain ⟨_, c2⟩ := okCs_ok h2
  obtain ⟨t1, t2⟩ := small_fewp h3
  obtain ⟨_, u2⟩ := small_fewp h4
  refine ⟨by simpa [lowL] using c2, s2, by omega, t1, t2, ?_⟩
  have : fewIn a.t = true := by simpa using u2
  exact of_decide_eq_true this

end Go.Fw

end

section
/- Rows in rows, in memory of their own: blocks that the abstract memory does not mention. -/
namespace Go.Fw
set_option linter.unusedVariables false
set_option linter.unusedSimpArgs false
open Go Go.RowKit

/-- A block that is not mentioned lies as it lay. -/
theorem kept_unm {m m' : Mem} {w w' : World} {HB H' : List Blk} {k b : Nat} {o : Obj} (h' : Inv (ctxK w m HB k) m' w' H') (hb : w.heap[b]? = some o) (hM : m.M b = none) (hno : ¬ lent m HB b) :
    w'.heap[b]? = some o ∧ m'.M b = none ∧ ¬ lent m' H' b := by
  have hlt := lt_of_heap hb
  refine ⟨(h'.frame b hlt hno).trans hb, ?_, fun ⟨i, B, h1, h2, h3⟩ => ?_⟩
  · cases hx : m'.M b with
    | none => rfl
    | some y =>
      rcases h'.new b y hx with h1 | h1 | h1
      · have : m.M b = some y := h1
        rw [hM] at this; cases this
      · exact absurd h1 (by show ¬ w.heap.size ≤ b; omega)
      · exact (hno h1).elim
  · rcases h'.own i B b h1 h2 h3 with h4 | h4
    · exact absurd h4 (by show ¬ w.heap.size ≤ b; omega)
    · exact hno h4

/-- A row's header whose block, if it is looked at, was made since, is not read only, and is not mentioned. -/
def FS (m : Mem) (H : List Blk) (w : World) (n1 : Nat) (u : Value) : Prop :=
  ∃ a len cap, u = .slice a len cap ∧ len ≤ maxLen ∧ (len = 0 ∨ ∃ b cs e, a = some ⟨b, 0, none⟩ ∧ n1 ≤ b ∧ w.heap[b]? = some (.cells cs e (0, 0)) ∧ len ≤ cs.size ∧ m.M b = none ∧ ¬ lent m H b)
theorem FS.one {m : Mem} {H : List Blk} {w : World} {n1 : Nat} {u : Value} (h : FS m H w n1 u) : u.oneCell' = true := by
  obtain ⟨a, len, cap, rfl, _⟩ := h
  rfl
theorem FS.next {m m' : Mem} {w w' : World} {HB H' : List Blk} {k n1 : Nat} {u : Value} (h : FS m HB w n1 u) (h' : Inv (ctxK w m HB k) m' w' H') : FS m' H' w' n1 u := by
  obtain ⟨a, len, cap, hu, hm, h0 | ⟨b, cs, e, ha, hn, hb, hl, hM, hno⟩⟩ := h
  · exact ⟨a, len, cap, hu, hm, .inl h0⟩
  · obtain ⟨g1, g2, g3⟩ := kept_unm h' hb hM hno
    exact ⟨a, len, cap, hu, hm, .inr ⟨b, cs, e, ha, hn, g1, hl, g2, g3⟩⟩
/-- Fewer blocks are mentioned. -/
theorem FS.weak {m m' : Mem} {w : World} {H H' : List Blk} {n1 : Nat} {u : Value} (h : FS m H w n1 u) (hM : ∀ b, m.M b = none → m'.M b = none) (hl : ∀ b, lent m' H' b → lent m H b) : FS m' H' w n1 u := by
  obtain ⟨a, len, cap, hu, hm, h0 | ⟨b, cs, e, ha, hn, hb, hlen, hMb, hno⟩⟩ := h
  · exact ⟨a, len, cap, hu, hm, .inl h0⟩
  · exact ⟨a, len, cap, hu, hm, .inr ⟨b, cs, e, ha, hn, hb, hlen, hM b hMb, fun h => hno (hl b h)⟩⟩

/-- A block is no longer mentioned. -/
theorem inv_drop {c : Ctx} {m : Mem} {w : World} {H : List Blk} (h : Inv c m w H) (i : Nat) : Inv c m w (H.set i .no) := by
  have get : ∀ j B, (H.set i .no)[j]? = some B → B = .no ∨ (H[j]? = some B ∧ j ≠ i) := by
    intro j B hj
    by_cases e : j = i
    · subst e
      rw [List.getElem?_set_self'] at hj
      cases hx : H[j]? with
      | none => rw [hx] at hj; simp at hj
      | some y => rw [hx] at hj; simp at hj; exact .inl hj.symm
    · rw [List.getElem?_set_ne (Ne.symm e)] at hj
      exact .inr ⟨hj, e⟩
  exact {
    len := by rw [List.length_set]; exact h.len
    imm := h.imm
    le := h.le
    new := h.new
    ok := fun j B hj => by
      rcases get j B hj with rfl | ⟨g, _⟩
      · trivial
      · exact h.ok j B g
    own := fun j B b hj hl hb => by
      rcases get j B hj with rfl | ⟨g, _⟩
      · cases hl
      · exact h.own j B b g hl hb
    disj := fun j k B B' b hj hk hl hl' hb hb' => by
      rcases get j B hj with rfl | ⟨g, _⟩
      · cases hl
      · rcases get k B' hk with rfl | ⟨g', _⟩
        · cases hl'
        · exact h.disj j k B B' b g g' hl hl' hb hb'
    os := h.os
    tape := h.tape
    output := h.output
    size := h.size
    frame := h.frame
    keep := h.keep }
theorem lent_drop {m : Mem} {H : List Blk} {i b : Nat} (h : lent m (H.set i .no) b) : lent m H b := by
  obtain ⟨j, B, h1, h2, h3⟩ := h
  by_cases e : j = i
  · subst e
    rw [List.getElem?_set_self'] at h1
    cases hx : H[j]? with
    | none => rw [hx] at h1; simp at h1
    | some y => rw [hx] at h1; simp at h1; subst h1; cases h2
  · rw [List.getElem?_set_ne (Ne.symm e)] at h1
    exact ⟨j, B, h1, h2, h3⟩
/-- What a row of bytes of the call's own becomes when it is no longer mentioned. -/
theorem fs_of_own {c : Ctx} {m : Mem} {w : World} {H : List Blk} (h : Inv c m w H) {i : Nat} {l : List UInt8} (hi : H[i]? = some (.by l)) (hl : l.length ≤ maxLen) {n1 : Nat} (hn : ∀ b, blk (m.η i) = some b → n1 ≤ b) : FS m (H.set i .no) w n1 (m.η i) := by
  have hb := h.ok i _ hi
  rcases hb with ⟨h1, h2⟩ | ⟨b, cap, cur, e, h1, h2, h3, h4, h5, h6, h7⟩
  · exact ⟨none, 0, 0, h1, Nat.zero_le _, .inl rfl⟩
  · have hbk : blk (m.η i) = some b := by rw [h1]; rfl
    refine ⟨some ⟨b, 0, none⟩, l.length, cap, h1, hl, .inr ⟨b, cur, e, rfl, hn b hbk, h2, by omega, h6, fun hlt => ?_⟩⟩
    obtain ⟨j, B, g1, g2, g3⟩ := hlt
    by_cases e : j = i
    · subst e
      rw [List.getElem?_set_self', hi] at g1
      simp at g1
      subst g1
      cases g2
    · rw [List.getElem?_set_ne (Ne.symm e)] at g1
      exact e (h.disj j i B _ b g1 hi g2 rfl g3 hbk)

/-- A call, out of a walk with an end of its own. -/
theorem calls_awm {P : Program} {f : FuncId} {fn : Func} {code : Code} {N np : Nat} (hfn : P.funcs[f]? = some fn) (hb : fn.body = some code) (hN : fn.ntmps = N) (hnp : np ≤ N) {HB : List Blk} {xs : List AV} (hxs : xs.length = np) {m : Mem} {w : World} {vs : List Value}
    (hinv : Inv (ctxL w m HB) m w HB) (hlen : vs.length = xs.length) (hrel : ∀ (i : Nat) (x : AV), xs[i]? = some x → ∃ u, vs[i]? = some u ∧ RelA m x u) {R : Ctx → Ending → World → Prop}
    (main : AWM HB.length P N code (fun c => bodyPost P fn (R c)) ⟨gentry 0 xs, HB⟩) : Calls P f vs.toArray w (R (ctxL w m HB)) := by
  refine (callsIn_wide (n := 0)).1 (callsIn_of_wp hfn hb trivial ?_)
  have hentry : ∀ (xs : List AV) (k i : Nat), lk i (gentry k xs) = (if h : k ≤ i ∧ i - k < xs.length then (xs[i - k]'h.2) else .any) := by
    intro xs
    induction xs with
    | nil => intro k i; simp [gentry, lk]
    | cons x xs ih =>
      intro k i
      simp only [gentry, lk]
      split
      · rename_i e; subst e; simp
      · rename_i e
        rw [ih (k + 1) i]
        by_cases hk : k + 1 ≤ i ∧ i - (k + 1) < xs.length
        · rw [dif_pos hk, dif_pos ⟨by omega, by simp; omega⟩]
          have : i - k = (i - (k + 1)) + 1 := by omega
          simp only [this, List.getElem_cons_succ]
        · rw [dif_neg hk, dif_neg (by simp; omega)]
  have rel0 : RelS m N { tmps := vs.toArray ++ Array.replicate (fn.ntmps - vs.toArray.size) undef, defers := [] } (gentry 0 xs) := by
    refine ⟨rfl, by simp; omega, fun i => ?_⟩
    rw [hentry xs 0 i]
    split
    · rename_i h
      simp only [Nat.sub_zero] at h ⊢
      obtain ⟨u, h1, h2⟩ := hrel i _ (List.getElem?_eq_getElem h.2)
      have hlt := (List.getElem?_eq_some_iff.1 h1).1
      have : (vs.toArray ++ Array.replicate (fn.ntmps - vs.toArray.size) undef).getD i undef = u := by
        rw [Array.getD_eq_getD_getElem?, Array.getElem?_append_left (by simpa using hlt)]
        simp [h1]
      rw [this]; exact h2
    · exact .any
  exact main (ctxL w m HB) rfl m w _ hinv rel0

end Go.Fw

end

section
/- view: a copy's script lies in a row of the call's own. -/
namespace Go.Fw
open Go Go.Proofs
set_option linter.unusedVariables false
set_option linter.unusedSimpArgs false

noncomputable def F40O : Fun
  | [.by b] => @ite _ ((b.length ≤ 549755813000)) (Classical.propDecidable _) ((some ([.by b], .own 0))) none
  | _ => none

theorem ct40O : CT [] [0, 2, 4] [] := ⟨GClOk.nil _⟩

theorem c40O : ACon Try.prog 40 F40O := by
  refine aconc E_ok (rs := [.tmp 2 35]) Try.func40 rfl Try.ntmps40 (by kernel_rfl) rfl (by decide) F40O (np := 1) ?_ ?_
  · intro ts h; unfold F40O; split <;> first | rfl | (simp at h; done)
  intro ts H r hF hwf
  unfold F40O at hF
  split at hF <;> try (cases hF; done)
  
  rename_i b
  split at hF
  case isFalse => cases hF
  rename_i hc
  have hb := hc
  cases hF
  iterate 3 (refine St trivial ct40O ?_)
  refine AWP.seq ?_
  refine AWP.nK (l := [_]) trivial ct40O (fun r hr => ?_)
  show AWP _ _ _ _ _ _
  cases r
  · repeat refine St hb ct40O ?_
    exact AWP.ret (Fin trivial [] [1])
  · obtain rfl := hr rfl
    repeat refine St trivial ct40O ?_
    refine AWP.weak (Wo 2 (.by [])) ?_
    exact AWP.ret (Fin trivial [] [0])
theorem cloneO_c {b : List UInt8} (h : b.length ≤ 549755813000) : F40O [.by b] = some ([.by b], .own 0) := if_pos h

noncomputable def F27O : Fun
  | [x] => match inv coinT x with
    | some c => @ite _ ((lowC c = true)) (Classical.propDecidable _) ((some ([.by c.out.scr], .st [.t (rfT c.r), .st [.t (.int .u64 (c.out.val.toNat : Int)), .own 0], .t (.int .u32 (c.ht.toNat : Int)), .t (.bool c.first)]))) none
    | none => none
  | _ => none

theorem ct27O : CT [(40, ⟨[false], treeG F40O⟩)] [0, 1, 2] [] := ⟨(.cons c40O.g (.nil _))⟩

theorem c27O : ACon Try.prog 27 F27O := by
  refine aconc E_ok (rs := [.cell 2 39]) Try.func27 rfl Try.ntmps27 (by kernel_rfl) rfl (by decide) F27O (np := 1) ?_ ?_
  · intro ts h; unfold F27O; split <;> first | rfl | (simp at h; done)
  intro ts H r hF hwf
  unfold F27O at hF
  split at hF <;> try (cases hF; done)
  
  split at hF <;> try (cases hF; done)
  rename_i c hc
  split at hF
  case isFalse => cases hF
  rename_i hlow
  cases hF
  obtain rfl := inv_inv hc
  have h := cloneO_c (b := c.out.scr) (of_decide_eq_true hlow)
  simp only [coinT_st, rfT]
  repeat refine St h ct27O ?_
  exact AWP.ret (Fin trivial [] [2])
theorem copiedO_c {c : TCoin} (h : lowC c = true) : F27O [.st [.st [.ba 32 c.r.h.1, .int .u32 (c.r.i.toNat : Int)], .st [.int .u64 (c.out.val.toNat : Int), .by c.out.scr], .int .u32 (c.ht.toNat : Int), .bool c.first]] = some ([.by c.out.scr], .st [.t (.st [.ba 32 c.r.h.1, .int .u32 (c.r.i.toNat : Int)]), .st [.t (.int .u64 (c.out.val.toNat : Int)), .own 0], .t (.int .u32 (c.ht.toNat : Int)), .t (.bool c.first)]) := by
  show F27O [coinT c] = some ([.by c.out.scr], .st [.t (rfT c.r), .st [.t (.int .u64 (c.out.val.toNat : Int)), .own 0], .t (.int .u32 (c.ht.toNat : Int)), .t (.bool c.first)])
  simp only [F27O, inv_of coinT_inj]
  exact if_pos h

/-- A coin whose script is told by its header alone. -/
def opCoin (c : TCoin) (u : Value) : T := .st [.st [.ba 32 c.r.h.1, .int .u32 (c.r.i.toNat : Int)], .st [.int .u64 (c.out.val.toNat : Int), .op u], .int .u32 (c.ht.toNat : Int), .bool c.first]
def opC (l : List TCoin) (us : List Value) : List T := List.zipWith opCoin l us
theorem opC_len {l : List TCoin} {us : List Value} (h : us.length = l.length) : (opC l us).length = l.length := by unfold opC; rw [List.length_zipWith]; omega
theorem opC_snoc {l : List TCoin} {us : List Value} {i : Nat} (hi : i < l.length) (h : us.length = i) (u : Value) : opC (l.take (i + 1)) (us ++ [u]) = opC (l.take i) us ++ [opCoin (l.getD i dCoin) u] := by
  unfold opC
  rw [List.take_add_one, List.getElem?_eq_getElem hi, List.zipWith_append (by rw [List.length_take]; omega)]
  simp [List.getD_eq_getElem?_getD, hi]
theorem opCoin_rel {m : Mem} {c : TCoin} {k : Nat} {v : Value} (h : RelA m (.st [.t (.st [.ba 32 c.r.h.1, .int .u32 (c.r.i.toNat : Int)]), .st [.t (.int .u64 (c.out.val.toNat : Int)), .own k], .t (.int .u32 (c.ht.toNat : Int)), .t (.bool c.first)]) v) (h1 : (m.η k).oneCell' = true) : RelT m.M (opCoin c (m.η k)) v := by
  generalize hx : AV.st [.t (.st [.ba 32 c.r.h.1, .int .u32 (c.r.i.toNat : Int)]), .st [.t (.int .u64 (c.out.val.toNat : Int)), .own k], .t (.int .u32 (c.ht.toNat : Int)), .t (.bool c.first)] = x at h
  cases h <;> cases hx
  rename_i arr hw ha hr
  have hl32 := c.r.h.2
  have hA : AV.cellsL [.t (.st [.ba 32 c.r.h.1, .int .u32 (c.r.i.toNat : Int)]), .st [.t (.int .u64 (c.out.val.toNat : Int)), .own k], .t (.int .u32 (c.ht.toNat : Int)), .t (.bool c.first)] = (c.r.h.1.map fun x => AV.t (u8 x)) ++ [.t (.int .u32 (c.r.i.toNat : Int)), .t (.int .u64 (c.out.val.toNat : Int)), .own k, .t (.int .u32 (c.ht.toNat : Int)), .t (.bool c.first)] := by
    simp [AV.cellsL, AV.cells, T.cells, T.cellsL]
  have hT : T.cellsL [.st [.ba 32 c.r.h.1, .int .u32 (c.r.i.toNat : Int)], .st [.int .u64 (c.out.val.toNat : Int), .op (m.η k)], .int .u32 (c.ht.toNat : Int), .bool c.first] = (c.r.h.1.map u8) ++ [.int .u32 (c.r.i.toNat : Int), .int .u64 (c.out.val.toNat : Int), .op (m.η k), .int .u32 (c.ht.toNat : Int), .bool c.first] := by
    simp [T.cells, T.cellsL]
  rw [hA] at hr
  have hwf : (opCoin c (m.η k)).wf := by
    simp only [AV.wfL, AV.wf, T.wf, T.wfL] at hw
    simp only [opCoin, T.wf, T.wfL]
    exact ⟨hw.1, ⟨hw.2.1.1, h1, trivial⟩, hw.2.2.1, trivial, trivial⟩
  refine .st hwf ?_ fun i d hd => ?_
  · rw [ha]
    simp [AV.sizeL, AV.size, T.sizeL, T.size]
  · rw [hT] at hd
    have hml : (c.r.h.1.map u8).length = 32 := by rw [List.length_map, hl32]
    have hml2 : (c.r.h.1.map fun x => AV.t (u8 x)).length = 32 := by rw [List.length_map, hl32]
    by_cases hi : i < 32
    · rw [List.getElem?_append_left (by omega), List.getElem?_map, Option.map_eq_some_iff] at hd
      obtain ⟨x, hx, rfl⟩ := hd
      have := hr i (.t (u8 x)) (by rw [List.getElem?_append_left (by omega), List.getElem?_map, hx]; rfl)
      exact this.t_inv
    · obtain ⟨j, rfl⟩ : ∃ j, i = 32 + j := ⟨i - 32, by omega⟩
      rw [List.getElem?_append_right (by omega), hml, Nat.add_sub_cancel_left] at hd
      have hr2 : ∀ x, ([AV.t (.int .u32 (c.r.i.toNat : Int)), .t (.int .u64 (c.out.val.toNat : Int)), .own k, .t (.int .u32 (c.ht.toNat : Int)), .t (.bool c.first)] : List AV)[j]? = some x → RelA m x (arr.getD (32 + j) undef) := fun x hx =>
        hr (32 + j) x (by rw [List.getElem?_append_right (by omega), hml2, Nat.add_sub_cancel_left]; exact hx)
      match j, hd, hr2 with
      | 0, hd, hr2 => cases hd; exact (hr2 _ rfl).t_inv
      | 1, hd, hr2 => cases hd; exact (hr2 _ rfl).t_inv
      | 2, hd, hr2 =>
        cases hd
        have := (hr2 _ rfl).own_inv.1
        rw [this]
        exact .op h1
      | 3, hd, hr2 => cases hd; exact (hr2 _ rfl).t_inv
      | 4, hd, hr2 => cases hd; exact (hr2 _ rfl).t_inv
      | j + 5, hd, hr2 => simp at hd

end Go.Fw

end

section
/- view: what List tells lies in memory of its own. -/
namespace Go.Fw
open Go Go.Proofs Go.RowKit
set_option linter.unusedVariables false
set_option linter.unusedSimpArgs false

theorem opC_nil (l : List TCoin) : opC l [] = [] := by simp [opC]
/-- What is asked of List's end: a row of its own, its scripts told by their headers alone, in memory of their own. -/
def ListR (l : List TCoin) (c : Ctx) : Ending → World → Prop := fun e w' => ∃ m' us v, e = .returned v ∧ MLe c.M0 m'.M ∧ us.length = l.length ∧ Inv c m' w' (vwH l ++ [.sq 37 (opC l us)]) ∧ RelA m' (.own 2) v ∧ ∀ u ∈ us, FS m' (vwH l ++ [.sq 37 (opC l us)]) w' c.w0.heap.size u

theorem ct10O : CT [(27, ⟨[false], treeG F27O⟩)] [0, 2, 3, 5, 7, 11, 12, 13, 14] [] := ⟨(.cons c27O.g (.nil _))⟩

def cntL (l : List TCoin) (a : Act) : Nat := match a.tmps.getD 13 undef with
  | .int _ z => l.length - z.toNat
  | _ => 0

set_option maxRecDepth 8000 in
set_option maxHeartbeats 4000000 in
theorem listF (l : List TCoin) (hlen : l.length ≤ 1000000) (hlow : lowL l = true) {m : Mem} {wd : World} {vs : List Value} (hinv : Inv (ctxL wd m (vwH l)) m wd (vwH l)) (hl1 : vs.length = 1)
    (hrel : ∀ (i : Nat) (x : AV), ([.ptr 0 0 []] : List AV)[i]? = some x → ∃ u, vs[i]? = some u ∧ RelA m x u) : Calls Try.prog 10 vs.toArray wd (ListR l (ctxL wd m (vwH l))) := by
  refine calls_awm Try.func10 rfl Try.ntmps10 (np := 1) (by decide) (xs := [.ptr 0 0 []]) rfl hinv hl1 hrel (R := ListR l) ?_
  clear hinv hrel
  
  have hml : (l.map coinT).length = l.length := List.length_map ..
  show AWM 2 _ _ _ _ _
  refine AWM.seq ?_
  refine St (And.intro @gentry.eq_1 <| @gentry.eq_2) ct10O ?_
  show AWM _ _ _ _ _ _
  refine AWM.seq ?_
  repeat refine St @vwH.eq_def ct10O ?_
  show AWM _ _ _ _ _ _
  refine AWM.seq ?_
  refine St trivial ct10O ?_
  show AWM _ _ _ _ _ _
  refine AWM.seq2 ?_
  refine St hml ct10O ?_
  show seqZ _ _ _ _ _ _ _ _
  intro c hc m1 w1 a hi hs
  have hi' : Inv c m1 w1 (vwH l) := hi
  obtain ⟨m2, hi2, hs2⟩ := (show Weak 2 24 ⟨_, vwH l⟩ ⟨[(0, .ptr 0 0 []), (3, .own 2), (11, .own 1), (12, .t (.int .i64 (l.length : Int))), (13, .t (.int .i64 ((0 : Nat) : Int)))], vwH l ++ [.sq 37 (opC (l.take 0) [])]⟩ from Weak.trans (Wo 3 (.sq 37 [])) (Wt (And.intro @vwH.eq_def <| And.intro @opC_nil <| And.intro @List.cons_append.{0} <| @List.nil_append.{0}) [0, 3, 11, 12, 13] [0, 1, 2])) (ctxK w1 m1 (vwH l) 2) rfl m1 w1 a (inv_ctxK (k := 2) hi' (Nat.le_refl _)) hs
  clear hs hi
  have hn1 : c.w0.heap.size ≤ w1.heap.size := hi'.size
  have own_new : ∀ {m' : Mem} {w' : World} {H' : List Blk}, Inv (ctxK w1 m1 (vwH l) 2) m' w' H' → H'[0]? = some (.bx (.st [.own 1])) → H'[1]? = some (.sq 37 (l.map coinT)) → ∀ j B, 2 ≤ j → H'[j]? = some B → B.live = true → ∀ b, blk (m'.η j) = some b → w1.heap.size ≤ b := by
    intro m' w' H' h h0 h1 j B hj hB hBl b hb
    rcases h.own j B b hB hBl hb with g | ⟨i, B', g1, g2, g3⟩
    · exact g
    · have hi2 : i < 2 := (List.getElem?_eq_some_iff.1 g1).1
      obtain ⟨_, k2⟩ := h.keep i hi2
      have k3 : blk (m'.η i) = some b := by rw [k2]; exact g3
      have : ∃ B2, H'[i]? = some B2 ∧ B2.live = true := by
        rcases (show i = 0 ∨ i = 1 by omega) with rfl | rfl
        · exact ⟨_, h0, rfl⟩
        · exact ⟨_, h1, rfl⟩
      obtain ⟨B2, q1, q2⟩ := this
      have := h.disj i j B2 B b q1 hB q2 hBl k3 hb
      omega
  have comp : ∀ {m' : Mem} {w' : World} {H' : List Blk}, Inv (ctxK w1 m1 (vwH l) 2) m' w' H' → Inv c m' w' H' := fun h => inv_comp hi' (by rw [hc]; exact Nat.le_refl _) h
  have val13 : ∀ {m : Mem} {a : Act} {s : Slots} {z : Int}, RelS m 24 a s → lk 13 s = .t (.int .i64 z) → cntL l a = l.length - z.toNat := by
    intro m a s z h hz
    have h3 := h.2.2 13
    rw [hz] at h3
    unfold cntL
    rw [h3.int_inv.1]
  refine wpIn_block ?_
  refine wpIn_loop (fun a' w' => ∃ i m us, i ≤ l.length ∧ us.length = i ∧ Inv (ctxK w1 m1 (vwH l) 2) m w' (vwH l ++ [.sq 37 (opC (l.take i) us)]) ∧ RelS m 24 a' [(0, .ptr 0 0 []), (3, .own 2), (11, .own 1), (12, .t (.int .i64 (l.length : Int))), (13, .t (.int .i64 (i : Int)))] ∧ ∀ u ∈ us, FS m (vwH l ++ [.sq 37 (opC (l.take i) us)]) w' w1.heap.size u) (fun a' _ => cntL l a') ⟨0, m2, [], Nat.zero_le _, rfl, hi2, hs2, by simp⟩ ?_
  clear hi2 hs2
  rintro a' w' ⟨i, m, us, hil, hus, hI, hS, hF⟩
  have hcnt := val13 hS rfl
  have hml := hml
  by_cases hlt : i < l.length
  rotate_left
  · obtain rfl : i = l.length := by omega
    have hlt2 : ((l.length : Int) < (l.length : Int)) = False := by simp
    rw [List.take_length] at hI hF
    refine wpIn_seq ?_
    refine reg_step X_ok ct10O.cl (S := ⟨_, _⟩) (c := ctxK w' m _ 2) rfl (Ev hlt2) (inv_ctxK hI (by simp [vwH])) hS (fun _ => False) (fun _ h => h.elim) (fun m3 w3 a3 i3 r3 _ => ?_)
    have hI3 := inv_comp hI (Nat.le_refl _) i3
    refine wpIn_seq (wpIn_cond_false ((r3.2.2 14).bool_inv) (wpIn_exit ?_))
    have hI3' : Inv (ctxK w1 m1 (vwH l) 2) m3 w3 (vwH l ++ [.sq 37 (opC l us)]) := hI3
    have hF3 : ∀ u ∈ us, FS m3 (vwH l ++ [.sq 37 (opC l us)]) w3 w1.heap.size u := fun u hu => (hF u hu).next i3
    show Code.wpIn _ _ _ _ _ _ _
    refine wpIn_seq ?_
    refine reg_step X_ok ct10O.cl (S := ⟨[(0, .ptr 0 0 []), (3, .own 2)], vwH l ++ [.sq 37 (opC l us)]⟩) (c := ctxK w3 m3 (vwH l ++ [.sq 37 (opC l us)]) 2) rfl (Ev trivial) (inv_ctxK hI3' (by simp [vwH])) (r3.prune [0, 3]) (fun _ => False) (fun _ h => h.elim) (fun m4 w4 a4 i4 r4 _ => ?_)
    have hI4 : Inv (ctxK w1 m1 (vwH l) 2) m4 w4 (vwH l ++ [.sq 37 (opC l us)]) := inv_comp hI3' (Nat.le_refl _) i4
    have hF4 : ∀ u ∈ us, FS m4 (vwH l ++ [.sq 37 (opC l us)]) w4 w1.heap.size u := fun u hu => (hF3 u hu).next i4
    refine wpIn_ret ?_
    have hcI := comp hI4
    refine ⟨r4.1, _, results_tmp rfl _ _ _, m4, us, _, rfl, hcI.le, hus, hcI, r4.2.2 2, fun u hu => ?_⟩
    obtain ⟨x, len, cap, h1, h2, h3⟩ := hF4 u hu
    refine ⟨x, len, cap, h1, h2, h3.imp id fun ⟨b, cs, e, q1, q2, q3⟩ => ⟨b, cs, e, q1, Nat.le_trans hn1 q2, q3⟩⟩
  have hlt2 : (i : Int) < (l.length : Int) := by omega
  have hg := coin_getD l i hlt
  have hlw := lowL_get hlow hlt
  have hcp := copiedO_c hlw
  have hsn := opC_snoc hlt hus
  have hXl : (opC (l.take i) us).length ≤ 1000000 := by rw [opC_len (by rw [List.length_take]; omega), List.length_take]; omega
  rw [coinT_st] at hg
  generalize l.getD i dCoin = cn at *
  generalize opC (l.take i) us = X at *
  obtain ⟨H0, hH0⟩ : ∃ H0 : List Blk, H0 = [.bx (.st [.own 1]), .sq 37 (l.map coinT), .sq 37 X] := ⟨_, rfl⟩
  have hI0 : Inv (ctxK w1 m1 (vwH l) 2) m w' [.bx (.st [.own 1]), .sq 37 (l.map coinT), .sq 37 X] := hI
  have hF0 : ∀ u ∈ us, FS m [.bx (.st [.own 1]), .sq 37 (l.map coinT), .sq 37 X] w' w1.heap.size u := hF
  clear hI hF hH0
  refine wpIn_seq ?_
  refine reg_step X_ok ct10O.cl (S := ⟨_, _⟩) (c := ctxK w' m _ 2) rfl (Ev hlt2) (inv_ctxK hI0 (by simp)) hS (fun _ => False) (fun _ h => h.elim) (fun m3 w3 a3 i3 r3 _ => ?_)
  have hI3 : Inv (ctxK w1 m1 (vwH l) 2) m3 w3 [.bx (.st [.own 1]), .sq 37 (l.map coinT), .sq 37 X] := inv_comp hI0 (Nat.le_refl _) i3
  have hF3 : ∀ u ∈ us, FS m3 [.bx (.st [.own 1]), .sq 37 (l.map coinT), .sq 37 X] w3 w1.heap.size u := fun u hu => (hF0 u hu).next i3
  refine wpIn_seq (wpIn_cond_true ((r3.2.2 14).bool_inv) (wpIn_skip ?_))
  clear i3 hI0 hF0 hS
  refine wpIn_seq (wpIn_block (wpIn_seq ?_))
  refine reg_step X_ok ct10O.cl (S := ⟨_, _⟩) (c := ctxK w3 m3 _ 2) rfl (Ev (And.intro hlt <| And.intro hlt2 <| And.intro hml hg)) (inv_ctxK hI3 (by simp)) r3 (fun _ => False) (fun _ h => h.elim) (fun m4 w4 a4 i4 r4 _ => ?_)
  have hI4 := inv_comp hI3 (Nat.le_refl _) i4
  have hF4 := fun u hu => (hF3 u hu).next i4
  show Code.wpIn _ _ _ _ _ _ _
  refine wpIn_region_lit ?_
  refine reg_pre X_ok ct10O.cl (pre := [_, _, _]) (rest := [_, _, _]) (S := ⟨_, _⟩) (c := ctxK w4 m4 _ 2) rfl (Ev hcp) (inv_ctxK hI4 (by simp)) r4 (fun _ => False) (fun _ h => h.elim) (fun m5 w5 a5 i5 r5 _ => ?_)
  have hI5 := inv_comp hI4 (Nat.le_refl _) i5
  have hF5 := fun u hu => (hF4 u hu).next i5
  have hu5 := fs_of_own hI5 (i := 4) rfl (show cn.out.scr.length ≤ maxLen from Nat.le_trans (of_decide_eq_true hlw) (by decide)) (own_new hI5 rfl rfl 4 _ (by decide) rfl rfl)
  have hop := opCoin_rel (c := cn) (k := 4) (r5.2.2 19) hu5.one
  obtain ⟨u, hu⟩ : ∃ u, u = m5.η 4 := ⟨_, rfl⟩
  rw [← hu] at hop hu5
  have hF6 : ∀ u' ∈ us ++ [u], FS m5 [.bx (.st [.own 1]), .sq 37 (l.map coinT), .sq 37 X, _, .no] w5 w1.heap.size u' := fun u' h' => by
    rcases List.mem_append.1 h' with h' | h'
    · exact (hF5 u' h').weak (fun _ h => h) (fun b h => lent_drop (i := 4) h)
    · obtain rfl := List.mem_singleton.1 h'
      exact hu5
  have hI6 : Inv (ctxK w1 m1 (vwH l) 2) m5 w5 [.bx (.st [.own 1]), .sq 37 (l.map coinT), .sq 37 X, _, .no] := inv_drop hI5 4
  have r6 : RelS m5 24 a5 [(19, .t (.st [.st [.ba 32 cn.r.h.1, .int .u32 (cn.r.i.toNat : Int)], .st [.int .u64 (cn.out.val.toNat : Int), .op u], .int .u32 (cn.ht.toNat : Int), .bool cn.first])), (17, .own 2), (0, .ptr 0 0 []), (3, .own 2), (11, .own 1), (12, .t (.int .i64 (l.length : Int))), (13, .t (.int .i64 (i : Int)))] := by
    have h := r5.prune [17, 0, 3, 11, 12, 13]
    simp only [Fw.prune, List.map_cons, List.map_nil, lk, ↓reduceIte, Nat.reduceEqDiff] at h
    refine ⟨h.1, h.2.1, fun j => ?_⟩
    by_cases e : j = 19
    · subst e; exact .t hop
    · have := h.2.2 j
      simp only [lk, if_neg e] at this ⊢
      exact this
  clear hI5 hF5 r5 hu5 hI4 hF4 r4 i5 i4 hI3 hF3 r3
  refine reg_pre X_ok ct10O.cl (pre := [_, _, _]) (rest := []) (S := ⟨_, _⟩) (c := ctxK w5 m5 _ 2) rfl (Ev hXl) (inv_ctxK hI6 (by simp)) r6 (fun _ => False) (fun _ h => h.elim) (fun m7 w7 a7 i7 r7 _ => wpListIn_nil ?_)
  have hI7 := inv_comp hI6 (Nat.le_refl _) i7
  have hF7 := fun u hu => (hF6 u hu).next i7
  clear i7 hI6 hF6 r6
  show Code.wpIn _ _ _ _ _ _ _
  refine reg_step X_ok ct10O.cl (S := ⟨_, _⟩) (c := ctxK w7 m7 _ 2) rfl (Ev (And.intro hlt hlen)) (inv_ctxK hI7 (by simp)) r7 (fun _ => False) (fun _ h => h.elim) (fun m8 w8 a8 i8 r8 _ => ?_)
  have hI8 := inv_comp hI7 (Nat.le_refl _) i8
  have hF8 := fun u hu => (hF7 u hu).next i8
  clear i8 hI7 hF7 r7
  have e1 : (i : Int) + 1 = ((i + 1 : Nat) : Int) := by omega
  rw [e1] at r8
  obtain ⟨m9, i9, r9⟩ := (show Weak 2 24 ⟨_, _⟩ ⟨[(0, .ptr 0 0 []), (3, .own 2), (11, .own 1), (12, .t (.int .i64 (l.length : Int))), (13, .t (.int .i64 ((i + 1 : Nat) : Int)))], [.bx (.st [.own 1]), .sq 37 (l.map coinT), .sq 37 (X ++ [opCoin cn u])]⟩ from (Wt @opCoin.eq_def [0, 3, 11, 12, 13] [0, 1, 6])) (ctxK w8 m8 _ 2) rfl m8 w8 a8 (inv_ctxK (k := 2) hI8 (by simp)) r8
  have hI9 := inv_comp hI8 (Nat.le_refl _) i9
  have hF9 := fun u hu => (hF8 u hu).next i9
  refine ⟨⟨i + 1, m9, us ++ [u], hlt, by simp [hus], ?_, r9, ?_⟩, ?_⟩
  · rw [hsn]; exact hI9
  · rw [hsn]; exact hF9
  · rw [val13 r9 rfl, hcnt]
    simp only [Int.toNat_natCast]
    omega

end Go.Fw

end

section
/- Blocks that the abstract memory does not mention are overwritten. -/
namespace Go.Fw
set_option linter.unusedVariables false
set_option linter.unusedSimpArgs false
open Go Go.RowKit

/-- A block that is not mentioned is turned. -/
theorem inv_turnUn {c : Ctx} {m : Mem} {w w2 : World} {H : List Blk} (h : Inv c m w H) {r : Nat} (hM : m.M r = none) (hno : ¬ lent m H r) (hc : c.w0.heap.size ≤ r)
    (ho : ∀ x, x ≠ r → w2.heap[x]? = w.heap[x]?) (hs : w2.heap.size = w.heap.size) (h1 : w2.os = w.os) (h2 : w2.tape = w.tape) (h3 : w2.output = w.output) : Inv c m w2 H := by
  have hne : ∀ i B b, H[i]? = some B → B.live = true → blk (m.η i) = some b → b ≠ r := by
    intro i B b hi hl hb e
    subst e
    exact hno ⟨i, B, hi, hl, hb⟩
  exact {
    len := h.len
    imm := fun b x hb => (ho b (fun e => by subst e; rw [hM] at hb; cases hb)).trans (h.imm b x hb)
    le := h.le
    new := h.new
    ok := fun i B hi => (h.ok i B hi).move (.refl m) (fun b hl hb => ((h.ok i B hi).at hl hb).1) (fun b hl hb => ho b (hne i B b hi hl hb))
    own := h.own
    disj := h.disj
    os := h1.trans h.os
    tape := h2.trans h.tape
    output := h3.trans h.output
    size := Nat.le_trans h.size (Nat.le_of_eq hs.symm)
    frame := fun b hb hO => (ho b (by omega)).trans (h.frame b hb hO)
    keep := h.keep }
/-- Its cells are other cells, as many. -/
theorem FS.turn {m : Mem} {H : List Blk} {w w2 : World} {n1 r : Nat} {u : Value} {cs cs' : Array Value} {e : TypeId} (h : FS m H w n1 u) (hr : w.heap[r]? = some (.cells cs e (0, 0))) (hr2 : w2.heap[r]? = some (.cells cs' e (0, 0))) (hz : cs'.size = cs.size)
    (ho : ∀ x, x ≠ r → w2.heap[x]? = w.heap[x]?) : FS m H w2 n1 u := by
  obtain ⟨a, len, cap, hu, hm, h0 | ⟨b, cs1, e1, ha, hn, hb, hl, hM, hno⟩⟩ := h
  · exact ⟨a, len, cap, hu, hm, .inl h0⟩
  · by_cases hbr : b = r
    · subst hbr
      rw [hr] at hb
      cases hb
      exact ⟨a, len, cap, hu, hm, .inr ⟨b, cs', e, ha, hn, hr2, by omega, hM, hno⟩⟩
    · exact ⟨a, len, cap, hu, hm, .inr ⟨b, cs1, e1, ha, hn, (ho b hbr).trans hb, hl, hM, hno⟩⟩

/-- A contract of told content, out of a walk with a part walked by itself. -/
theorem aconcM {P : Program} {E : Env} (hE : EnvOk P E) {f : FuncId} {fn : Func} {code : Code} {N np : Nat} {rs : List RS} (hfn : P.funcs[f]? = some fn) (hb : fn.body = some code) (hN : fn.ntmps = N)
    (hname : (fn.name == "runtime.NumGoroutine") = false) (hres : fn.results.toList = rs.map RS.var) (hnp : np ≤ N) (F : Fun) (hF : ∀ ts, ts.length ≠ np → F ts = none)
    (main : ∀ ts H r, F ts = some (H, r) → (∀ t ∈ ts, t.wf) → AWM 0 P N code (fun c => bodyPostM Fence.wide 0 P fn (Rg c H r)) ⟨entry 0 ts, []⟩) : ACon P f F := by
  refine ACon.of_g (gconcM hE hfn hb hN hname hres hnp (treeG F) (fun HB xs hl => ?_) fun HB xs H r hG hwf hex => ?_)
  · unfold treeG
    split
    · split
      · rename_i ts hts
        have := allT_ok xs ts hts
        subst this
        exact hF ts (by simpa using hl)
      · rfl
    · rfl
  · unfold treeG at hG
    split at hG
    · split at hG
      · rename_i ts hts
        have := allT_ok xs ts hts
        subst this
        rw [gentry_map]
        exact main ts H r hG (fun t ht => by have := hwf (.t t) (List.mem_map_of_mem ht); simpa only [AV.wf] using this)
      · cases hG
    · cases hG

/-- Ways that come together ahead of a part walked by itself. -/
def cutMQ (kp : Nat) (P : Program) (N : Nat) (y : Code) (K : Ctx → Exit → Act → World → Prop) (S' : AS) : Exit → AS → Prop
  | .normal, S => Weak kp N S S'
  | e, S => seqM kp P N y K e S
theorem AWM.cut {kp : Nat} {P : Program} {N : Nat} {x y : Code} {K : Ctx → Exit → Act → World → Prop} {S : AS} (S' : AS) (h : AWP kp P N x (cutMQ kp P N y K S') S) (k : AWM kp P N y K S') : AWM kp P N (.seq x y) K S :=
  AWM.seq (h.mono fun e S hq => by
    cases e with
    | normal => exact AWM.weak hq k
    | _ => exact hq)

end Go.Fw

end

section
/- A row that is known by its header alone: its length, a place in it, a store into it. -/
namespace Go.Fw
set_option linter.unusedVariables false
set_option linter.unusedSimpArgs false
open Go Go.RowKit

theorem wl_len {F : Fence} {n : Nat} {P : Program} {E : Env} (hE : EnvOk P E) {w : World} {ops : Array Oper} {rest : List Oper} {o : Oper} {a : Act} {Q : Exit → Act → World → Prop} (hg : o.guard = none)
    {x : Operand} {t e : TypeId} (hop : o.op = Op.call { callee := Callee.builtin Builtin.len, args := #[x], argTypes := #[t] }) (ht : (E t).ty = .sl e) {ad : Option Addr} {len cap : Nat} (hx : a.eval x = .slice ad len cap)
    (hK : wpListIn F n P ops Q rest (a.put o.dst (.int .i64 len)) w) : wpListIn F n P ops Q (o :: rest) a w := by
  have d := (hE.ty ht (by simp)).1
  simp only [DescOk] at d
  refine wpListIn_plain hg fun K hK' => ?_
  unfold Oper.wpIn
  refine ⟨?_, ?_⟩
  · simp [Oper.about, hop, resolve, Target.leads, Sem.run_pure]
  · rw [Oper.semAt_eq _ _ _ (by rw [hop]; intro c hc'; cases hc')]
    simp [execOp, hop, resolve, invoke, builtin, hx, Builtin.len_, run_underlying d, goInt, Result.andThen]
    exact hK' _ _ hK

theorem wl_index {F : Fence} {n : Nat} {P : Program} {E : Env} (hE : EnvOk P E) {w : World} {ops : Array Oper} {rest : List Oper} {o : Oper} {a : Act} {Q : Exit → Act → World → Prop} (hg : o.guard = none)
    {x i : Operand} {t e : TypeId} (hop : o.op = Op.indexAddr t x i) (ht : (E t).ty = .sl e) (hs : (E e).size = 1) {b len cap : Nat} {k : IntKind} {j : Int} (hx : a.eval x = .slice (some ⟨b, 0, none⟩) len cap) (hi : a.eval i = .int k j) (h0 : 0 ≤ j) (hj : j < len)
    (hK : wpListIn F n P ops Q rest (a.put o.dst (.pointer (some ⟨b, j.toNat, none⟩))) w) : wpListIn F n P ops Q (o :: rest) a w := by
  have d := (hE.ty ht (by simp)).1
  simp only [DescOk] at d
  have hrun := run_indexAt_sl d (hE.size hs (by omega)) (w := w) (b := b) (o := 0) (n := len) (cap := cap) (k := k) h0 hj
  rw [hs] at hrun
  simp only [Nat.zero_add, Nat.mul_one] at hrun
  refine wpListIn_plain hg fun K hK' => ?_
  unfold Oper.wpIn
  refine ⟨?_, ?_⟩
  · simp [Oper.about, hop]
  · rw [Oper.semAt_eq _ _ _ (by rw [hop]; intro c hc'; cases hc')]
    simp [execOp, hop, hx, hi, hrun, Result.andThen]
    exact hK' _ _ hK

theorem wl_store {F : Fence} {n : Nat} {P : Program} {E : Env} (hE : EnvOk P E) {w : World} {ops : Array Oper} {rest : List Oper} {o : Oper} {a : Act} {Q : Exit → Act → World → Prop} (hg : o.guard = none)
    {x y : Operand} {t : TypeId} (hop : o.op = Op.store t x y) (hs : (E t).size = 1) {b j : Nat} {cs : Array Value} {ty : TypeId} {k : IntKind} {z : Int} (hx : a.eval x = .pointer (some ⟨b, j, none⟩)) (hy : a.eval y = .int k z) (hb : w.heap[b]? = some (.cells cs ty (0, 0))) (hj : j < cs.size)
    (hK : ∀ w2 cs', w2.heap[b]? = some (.cells cs' ty (0, 0)) → cs'.size = cs.size → (∀ x, x ≠ b → w2.heap[x]? = w.heap[x]?) → w2.heap.size = w.heap.size → w2.os = w.os → w2.tape = w.tape → w2.output = w.output → wpListIn F n P ops Q rest (a.put o.dst undef) w2) : wpListIn F n P ops Q (o :: rest) a w := by
  have he := hE.size hs (by omega)
  have hst := run_storeCells_at P b j ty [.int k z] 0 cs w hb (by simp; omega) (by simp [Value.oneCell'])
  refine wpListIn_plain hg fun K hK' => ?_
  unfold Oper.wpIn
  refine ⟨?_, ?_⟩
  · simp [Oper.about, hop]
  · rw [Oper.semAt_eq _ _ _ (by rw [hop]; intro c hc'; cases hc')]
    simp [execOp, hop, hx, hy, Instr.storeAt, Instr.sureAddr, storeVar, he.sizeOf, hs, Value.cells, hst, Result.andThen]
    refine hK' _ _ (hK (w.setRow b _) _ (setRow_heap w b cs _ ty _ hb) ?_ (fun x hx => setRow_other w b x _ hx) (by simp [World.setRow]) rfl rfl rfl)
    simp; omega

end Go.Fw

end

section
/- Chapter 25: what List told is overwritten. -/
namespace Go.Fw
open Go Go.Proofs Go.RowKit
set_option linter.unusedVariables false
set_option linter.unusedSimpArgs false

def sndC : Code → Code
  | .seq _ y => y
  | x => x
def fstC : Code → Code
  | .seq x _ => x
  | x => x
/-- The loops of ViewStays. -/
noncomputable def spoilC : Code := fstC (sndC (sndC (sndC (sndC (sndC (sndC (sndC (sndC (sndC (sndC (Try.f5.body.getD .skip)))))))))))

def cntS (n j : Nat) (a : Act) : Nat := match a.tmps.getD j undef with
  | .int _ z => n - z.toNat
  | _ => 0
theorem cntS_val {m : Mem} {a : Act} {s : Slots} {N n j : Nat} {z : Int} (h : RelS m N a s) (hz : lk j s = .t (.int .i64 z)) : cntS n j a = n - z.toNat := by
  have h3 := h.2.2 j
  rw [hz] at h3
  unfold cntS
  rw [h3.int_inv.1]
theorem opC_get {l : List TCoin} {us : List Value} (h : us.length = l.length) {i : Nat} (hi : i < l.length) : (opC l us).getD i default = opCoin (l.getD i dCoin) (us.getD i undef) := by
  unfold opC
  simp [List.getD_eq_getElem?_getD, hi, h]

theorem RelT.op_inv {M : Nat → Option Obj} {u v : Value} (h : RelT M (.op u) v) : v = u := by cases h; rfl

set_option maxRecDepth 8000 in
set_option maxHeartbeats 4000000 in
theorem spoil (L : List TCoin) (hlen : L.length ≤ 1000000) {c : Ctx} (hk : c.k = 0) {m : Mem} {w : World} {a : Act} {us : List Value} (hus : us.length = L.length) {t : T} (hI : Inv c m w (vwH L ++ [.sq 37 (opC L us)])) (hS : RelS m 99 a [(11, .own 2), (5, .ptr 0 0 []), (10, .t t)]) (hF : ∀ u ∈ us, FS m (vwH L ++ [.sq 37 (opC L us)]) w c.w0.heap.size u)
    {K : Exit → Act → World → Prop} (hK : ∀ m' w' a', Inv c m' w' (vwH L ++ [.sq 37 (opC L us)]) → RelS m' 99 a' [(5, .ptr 0 0 []), (10, .t t)] → K .normal a' w') : spoilC.wpIn Fence.wide 0 Try.prog K a w := by
  dsimp only [spoilC, sndC, fstC, Try.f5, Option.getD]
  refine wpIn_seq ?_
  refine reg_step X_ok (GClOk.nil _) (S := ⟨_, _⟩) (c := ctxK w m _ 3) rfl (Ev trivial) (inv_ctxK hI (by simp [vwH])) hS (fun _ => False) (fun _ h => h.elim) (fun m5 w5 a5 i5 r5 _ => ?_)
  have hI5 : Inv c m5 w5 (vwH L ++ [.sq 37 (opC L us)]) := inv_comp hI (by omega) i5
  have hF5 : ∀ u ∈ us, FS m5 (vwH L ++ [.sq 37 (opC L us)]) w5 c.w0.heap.size u := fun u hu => (hF u hu).next i5
  clear i5 hI hS hF
  refine wpIn_block ?_
  refine wpIn_loop (fun a w => ∃ i m, i ≤ L.length ∧ Inv c m w (vwH L ++ [.sq 37 (opC L us)]) ∧ RelS m 99 a [(12, .t (.int .i64 ((i : Nat) : Int))), (11, .own 2), (5, .ptr 0 0 []), (10, .t t)] ∧ ∀ u ∈ us, FS m (vwH L ++ [.sq 37 (opC L us)]) w c.w0.heap.size u) (fun a _ => cntS L.length 12 a) ⟨0, m5, Nat.zero_le _, hI5, r5, hF5⟩ ?_
  clear hI5 hF5 r5
  rintro a1 w1 ⟨i, m1, hi, hI1, r1, hF1⟩
  have hcnt := cntS_val (n := L.length) r1 (z := i) (j := 12) rfl
  have hXl : (opC L us).length = L.length := opC_len hus
  obtain ⟨X, hX⟩ : ∃ X, X = opC L us := ⟨_, rfl⟩
  rw [← hX] at hI1 hF1 hXl
  by_cases hlt : i < L.length
  rotate_left
  · obtain rfl : i = L.length := by omega
    have hlt2 : ((L.length : Int) < (L.length : Int)) = False := by simp
    refine wpIn_seq (wpIn_seq ?_)
    refine reg_step X_ok (GClOk.nil _) (S := ⟨_, _⟩) (c := ctxK w1 m1 _ 3) rfl (Ev (And.intro hlt2 <| And.intro hXl <| @vwH.eq_def)) (inv_ctxK hI1 (by simp [vwH])) r1 (fun _ => False) (fun _ h => h.elim) (fun m3 w3 a3 i3 r3 _ => ?_)
    refine wpIn_cond_false ((r3.2.2 70).bool_inv) (wpIn_exit ?_)
    show K _ _ _
    refine hK m3 w3 a3 ?_ ?_
    · rw [← hX]; exact inv_comp hI1 (by omega) i3
    · exact r3.prune [5, 10]
  have hlt2 : (i : Int) < (L.length : Int) := by omega
  refine wpIn_seq (wpIn_seq ?_)
  refine reg_step X_ok (GClOk.nil _) (S := ⟨_, _⟩) (c := ctxK w1 m1 _ 3) rfl (Ev (And.intro hlt2 <| And.intro hXl <| @vwH.eq_def)) (inv_ctxK hI1 (by simp [vwH])) r1 (fun _ => False) (fun _ h => h.elim) (fun m2 w2 a2 i2 r2 _ => ?_)
  refine wpIn_cond_true ((r2.2.2 70).bool_inv) (wpIn_skip ?_)
  have hI2 : Inv c m2 w2 (vwH L ++ [.sq 37 X]) := inv_comp hI1 (by omega) i2
  have hF2 : ∀ u ∈ us, FS m2 (vwH L ++ [.sq 37 X]) w2 c.w0.heap.size u := fun u hu => (hF1 u hu).next i2
  have s2 : RelS m2 99 a2 [(12, .t (.int .i64 ((i : Nat) : Int))), (11, .own 2), (5, .ptr 0 0 []), (10, .t t)] := r2.prune [12, 11, 5, 10]
  clear i2 hI1 hF1 r1 r2
  refine wpIn_seq (wpIn_block (wpIn_seq ?_))
  refine reg_step X_ok (GClOk.nil _) (S := ⟨_, _⟩) (c := ctxK w2 m2 _ 3) rfl (Ev trivial) (inv_ctxK hI2 (by simp [vwH])) s2 (fun _ => False) (fun _ h => h.elim) (fun m3 w3 a3 i3 r3 _ => ?_)
  have hI3 : Inv c m3 w3 (vwH L ++ [.sq 37 X]) := inv_comp hI2 (by omega) i3
  have hF3 : ∀ u ∈ us, FS m3 (vwH L ++ [.sq 37 X]) w3 c.w0.heap.size u := fun u hu => (hF2 u hu).next i3
  clear i3 hI2 hF2 s2
  -- the script
  have hg : X.getD i default = opCoin (L.getD i dCoin) (us.getD i undef) := by rw [hX]; exact opC_get hus hlt
  have hmem : us.getD i undef ∈ us := by
    rw [List.getD_eq_getElem?_getD, List.getElem?_eq_getElem (by omega)]
    exact List.getElem_mem _
  obtain ⟨u, hu⟩ : ∃ u, u = us.getD i undef := ⟨_, rfl⟩
  rw [← hu] at hg hmem
  obtain ⟨sl, hsl⟩ : ∃ sl : Nat, ∃ ad cap, u = .slice ad sl cap := by
    obtain ⟨ad, len, cap, h, _⟩ := hF3 u hmem
    exact ⟨len, ad, cap, h⟩
  obtain ⟨ad, cap, hsl⟩ := hsl
  unfold opCoin at hg
  refine wpIn_block ?_
  refine wpIn_loop (fun a w => ∃ k m, k ≤ sl ∧ Inv c m w (vwH L ++ [.sq 37 X]) ∧ RelS m 99 a [(13, .t (.int .i64 ((k : Nat) : Int))), (12, .t (.int .i64 ((i : Nat) : Int))), (11, .own 2), (5, .ptr 0 0 []), (10, .t t)] ∧ ∀ u ∈ us, FS m (vwH L ++ [.sq 37 X]) w c.w0.heap.size u) (fun a _ => cntS sl 13 a) ⟨0, m3, Nat.zero_le _, hI3, r3, hF3⟩ ?_
  clear hI3 hF3 r3
  rintro a4 w4 ⟨k, m4, hk4, hI4, r4, hF4⟩
  have hcnt4 := cntS_val (n := sl) r4 (z := k) (j := 13) rfl
  refine wpIn_seq (wpIn_seq (wpIn_region_lit ?_))
  refine reg_pre X_ok (GClOk.nil _) (pre := [_, _, _, _, _, _, _]) (rest := [_, _]) (S := ⟨_, _⟩) (c := ctxK w4 m4 (vwH L ++ [.sq 37 X]) 3) rfl (Ev (And.intro hlt <| And.intro hlt2 <| And.intro hXl <| And.intro hg <| @vwH.eq_def)) (inv_ctxK hI4 (by simp [vwH])) r4 (fun _ => False) (fun _ h => h.elim) (fun m5 w5 a5 i5 r5 _ => ?_)
  have hI5 : Inv c m5 w5 (vwH L ++ [.sq 37 X]) := inv_comp hI4 (by omega) i5
  have hF5 : ∀ u ∈ us, FS m5 (vwH L ++ [.sq 37 X]) w5 c.w0.heap.size u := fun u hu => (hF4 u hu).next i5
  have slm : sl ≤ maxLen := by
    obtain ⟨ad', len', cap', h1, h2, _⟩ := hF5 u hmem
    rw [hsl] at h1; cases h1; exact h2
  have hin : inK .i64 (sl : Int) := by unfold maxLen at slm; simp [inK, IntKind.min, IntKind.max, IntKind.signed, IntKind.bits]; omega
  have v79 : a5.eval (.tmp 79) = .slice ad sl cap := by
    have := r5.2.2 79
    rw [← hsl]
    show a5.tmps.getD 79 undef = u
    exact (show RelA m5 (.t (.op u)) _ from this).t_inv.op_inv
  refine wl_len E_ok rfl rfl (e := 5) rfl v79 ?_
  have s5 : RelS m5 99 (a5.put (some 80) (.int .i64 (sl : Int))) [(80, .t (.int .i64 (sl : Int))), (73, .t (.int .i64 (k : Int))), (13, .t (.int .i64 (k : Int))), (12, .t (.int .i64 ((i : Nat) : Int))), (11, .own 2), (5, .ptr 0 0 []), (10, .t t)] :=
    RelS.puts (o := { dst := some 80, op := .move (.tmp 0), type := 0, pos := "", after := #[], guard := none }) (r5.prune [73, 13, 12, 11, 5, 10]) (.t (.int hin)) rfl
  generalize a5.put (some 80) (.int .i64 (sl : Int)) = a5' at *
  clear i5 r5 v79 hI4 hF4 r4
  by_cases hkl : k < sl
  rotate_left
  · obtain rfl : k = sl := by omega
    have hkl2 : ((k : Int) < (k : Int)) = False := by simp
    refine reg_pre X_ok (GClOk.nil _) (pre := [_]) (rest := []) (S := ⟨_, _⟩) (c := ctxK w5 m5 (vwH L ++ [.sq 37 X]) 3) rfl (Ev hkl2) (inv_ctxK hI5 (by simp [vwH])) s5 (fun _ => False) (fun _ h => h.elim) (fun m6 w6 a6 i6 r6 _ => wpListIn_nil ?_)
    refine wpIn_cond_false ((r6.2.2 81).bool_inv) (wpIn_exit ?_)
    have hI6 : Inv c m6 w6 (vwH L ++ [.sq 37 X]) := inv_comp hI5 (by omega) i6
    have hF6 : ∀ u ∈ us, FS m6 (vwH L ++ [.sq 37 X]) w6 c.w0.heap.size u := fun u hu => (hF5 u hu).next i6
    have s6 : RelS m6 99 a6 [(12, .t (.int .i64 ((i : Nat) : Int))), (11, .own 2), (5, .ptr 0 0 []), (10, .t t)] := r6.prune [12, 11, 5, 10]
    clear i6 r6 hI5 hF5 s5
    show Code.wpIn _ _ _ _ _ _ _
    refine reg_step X_ok (GClOk.nil _) (S := ⟨_, _⟩) (c := ctxK w6 m6 (vwH L ++ [.sq 37 X]) 3) rfl (Ev (And.intro hlt hlen)) (inv_ctxK hI6 (by simp [vwH])) s6 (fun _ => False) (fun _ h => h.elim) (fun m7 w7 a7 i7 r7 _ => ?_)
    have e1 : (i : Int) + 1 = ((i + 1 : Nat) : Int) := by omega
    have s7 : RelS m7 99 a7 [(12, .t (.int .i64 ((i : Nat) + 1 : Int))), (11, .own 2), (5, .ptr 0 0 []), (10, .t t)] := r7.prune [12, 11, 5, 10]
    rw [e1] at s7
    refine ⟨⟨i + 1, m7, hlt, ?_, s7, ?_⟩, ?_⟩
    · rw [← hX]; exact inv_comp hI6 (by omega) i7
    · rw [← hX]; exact fun u hu => (hF6 u hu).next i7
    · rw [cntS_val s7 (j := 12) rfl, hcnt]
      simp only [Int.toNat_natCast]
      omega
  have hkl2 : (k : Int) < (sl : Int) := by omega
  refine reg_pre X_ok (GClOk.nil _) (pre := [_]) (rest := []) (S := ⟨_, _⟩) (c := ctxK w5 m5 (vwH L ++ [.sq 37 X]) 3) rfl (Ev hkl2) (inv_ctxK hI5 (by simp [vwH])) s5 (fun _ => False) (fun _ h => h.elim) (fun m6 w6 a6 i6 r6 _ => wpListIn_nil ?_)
  refine wpIn_cond_true ((r6.2.2 81).bool_inv) (wpIn_skip ?_)
  have hI6 : Inv c m6 w6 (vwH L ++ [.sq 37 X]) := inv_comp hI5 (by omega) i6
  have hF6 : ∀ u ∈ us, FS m6 (vwH L ++ [.sq 37 X]) w6 c.w0.heap.size u := fun u hu => (hF5 u hu).next i6
  have s6 : RelS m6 99 a6 [(13, .t (.int .i64 (k : Int))), (12, .t (.int .i64 ((i : Nat) : Int))), (11, .own 2), (5, .ptr 0 0 []), (10, .t t)] := r6.prune [13, 12, 11, 5, 10]
  clear i6 r6 hI5 hF5 s5
  refine wpIn_seq (wpIn_block ?_)
  refine wpIn_region_lit ?_
  refine reg_pre X_ok (GClOk.nil _) (pre := [_, _, _, _, _, _, _]) (rest := [_, _]) (S := ⟨_, _⟩) (c := ctxK w6 m6 (vwH L ++ [.sq 37 X]) 3) rfl (Ev (And.intro hlt <| And.intro hlt2 <| And.intro hXl <| And.intro hg <| @vwH.eq_def)) (inv_ctxK hI6 (by simp [vwH])) s6 (fun _ => False) (fun _ h => h.elim) (fun m7 w7 a7 i7 r7 _ => ?_)
  have hI7 : Inv c m7 w7 (vwH L ++ [.sq 37 X]) := inv_comp hI6 (by omega) i7
  have hF7 : ∀ u ∈ us, FS m7 (vwH L ++ [.sq 37 X]) w7 c.w0.heap.size u := fun u hu => (hF6 u hu).next i7
  obtain ⟨ad', len', cap', q1, _, q2⟩ := hF7 u hmem
  rw [hsl] at q1
  cases q1
  rcases q2 with q2 | ⟨b, cs, e, rfl, hnb, hhb, hcl, hMb, hno⟩
  · omega
  have v89 : a7.eval (.tmp 89) = .slice (some ⟨b, 0, none⟩) sl cap := by
    have := r7.2.2 89
    rw [← hsl]
    show a7.tmps.getD 89 undef = u
    exact (show RelA m7 (.t (.op u)) _ from this).t_inv.op_inv
  have v90 : a7.eval (.tmp 90) = .int .i64 (k : Int) := (r7.2.2 90).int_inv.1
  refine wl_index E_ok rfl rfl (e := 5) rfl rfl v89 v90 (by omega) hkl2 ?_
  have s7 : RelS m7 99 (a7.put (some 91) (.pointer (some ⟨b, (k : Int).toNat, none⟩))) [(91, .any), (13, .t (.int .i64 (k : Int))), (12, .t (.int .i64 ((i : Nat) : Int))), (11, .own 2), (5, .ptr 0 0 []), (10, .t t)] :=
    RelS.puts (o := { dst := some 91, op := .move (.tmp 0), type := 0, pos := "", after := #[], guard := none }) (r7.prune [13, 12, 11, 5, 10]) .any rfl
  have v91 : (a7.put (some 91) (.pointer (some ⟨b, (k : Int).toNat, none⟩))).eval (.tmp 91) = .pointer (some ⟨b, (k : Int).toNat, none⟩) := by
    have h99 := r7.2.1
    simp [Act.put, Act.eval, Deferred.ofValue, h99]
  refine wl_store E_ok rfl rfl rfl v91 rfl hhb (by simp only [Int.toNat_natCast]; omega) ?_
  intro w8 cs' g1 g2 g3 g4 g5 g6 g7
  refine wpListIn_nil ?_
  have hI8 : Inv c m7 w8 (vwH L ++ [.sq 37 X]) := inv_turnUn hI7 hMb hno hnb g3 g4 g5 g6 g7
  have hF8 : ∀ u ∈ us, FS m7 (vwH L ++ [.sq 37 X]) w8 c.w0.heap.size u := fun u hu => (hF7 u hu).turn hhb g1 g2 g3
  have s8 := s7.prune [13, 12, 11, 5, 10]
  generalize a7.put (some 91) (.pointer (some ⟨b, (k : Int).toNat, none⟩)) = a8 at *
  have hkw : IntKind.i64.wrap ((k : Int) + 1) = (k : Int) + 1 := by unfold maxLen at slm; rw [wrap_i64 (by omega) (by omega)]
  show Code.wpIn _ _ _ _ _ _ _
  refine reg_step X_ok (GClOk.nil _) (S := ⟨_, _⟩) (c := ctxK w8 m7 (vwH L ++ [.sq 37 X]) 3) rfl (Ev hkw) (inv_ctxK hI8 (by simp [vwH])) s8 (fun _ => False) (fun _ h => h.elim) (fun m9 w9 a9 i9 r9 _ => ?_)
  have e1 : (k : Int) + 1 = ((k + 1 : Nat) : Int) := by omega
  have s9 : RelS m9 99 a9 [(13, .t (.int .i64 ((k : Nat) + 1 : Int))), (12, .t (.int .i64 ((i : Nat) : Int))), (11, .own 2), (5, .ptr 0 0 []), (10, .t t)] := r9.prune [13, 12, 11, 5, 10]
  rw [e1] at s9
  refine ⟨⟨k + 1, m9, hkl, inv_comp hI8 (by omega) i9, s9, fun u hu => (hF8 u hu).next i9⟩, ?_⟩
  rw [cntS_val s9 (j := 13) rfl, hcnt4]
  simp only [Int.toNat_natCast]
  omega

end Go.Fw

end

section
/- Chapter 25: ViewStays walked. -/
namespace Go.Fw
open Go Go.Proofs Go.RowKit
set_option linter.unusedVariables false
set_option linter.unusedSimpArgs false

noncomputable def F5 : Fun
  | [x, y] => match inv coinsT x, inv vactT y with
    | some l, some a => some ([], .t (.bool true))
    | _, _ => none
  | _ => none

theorem ct5 : CT [(7, ⟨[false], treeG F7⟩), (8, ⟨[], treeG F8⟩), (9, ⟨[false], treeG F9⟩), (10, ⟨[true], G10⟩), (18, ⟨[false, false], treeG F18⟩), (20, ⟨[false], treeG F20⟩), (21, ⟨[true], G21⟩), (22, ⟨[true, false], G22⟩)] [0, 1, 3, 4, 5, 6, 7, 8, 9, 10, 11, 12, 13, 21, 33, 62, 70, 81] [] := ⟨(.cons c7.g (.cons c8.g (.cons c9.g (.cons g10 (.cons c18.g (.cons c20.g (.cons g21 (.cons g22 (.nil _)))))))))⟩

theorem copy_c (l : List TCoin) (h : l.length ≤ 1000000) (h2 : lowL l = true) : G21 [.bx (.st [.own 1]), .sq 37 (l.map coinT)] [.ptr 0 0 []] = some (vwH l ++ [.bx (.st [.own 3]), .sq 37 (l.map coinT)], .ptr 2 0 []) := by
  show G21 (vwH l) [.ptr 0 0 []] = _
  have h0 : G21 (vwH l) [.ptr 0 0 []] = match inv vwH (vwH l) with
    | some l => @ite _ ((l.length ≤ 1000000 ∧ lowL l = true)) (Classical.propDecidable _) ((some (vwH l ++ [.bx (.st [.own 3]), .sq 37 (l.map coinT)], .ptr 2 0 []))) none
    | none => none := rfl
  rw [h0, inv_of vwH_inj]
  exact if_pos ⟨h, h2⟩

theorem AWM.retE {kp : Nat} {P : Program} {N : Nat} {y : Code} {K : Ctx → Exit → Act → World → Prop} {S : AS} (h : seqM kp P N y K .ret S) : AWM kp P N .ret K S := fun c hc m w a hi hs => wpIn_ret (h c hc m w a hi hs)
theorem AWM.app {kp : Nat} {P : Program} {N : Nat} {code : Code} {K : Ctx → Exit → Act → World → Prop} {S : AS} (h : AWM kp P N code K S) {c : Ctx} (hc : c.k = kp) {m : Mem} {w : World} {a : Act} (hi : Inv c m w S.H) (hs : RelS m N a S.s) : code.wpIn Fence.wide 0 P (K c) a w := h c hc m w a hi hs

set_option maxRecDepth 8000 in
set_option maxHeartbeats 8000000 in
theorem c5 : ACon Try.prog 5 F5 := by
  refine aconcM E_ok (rs := [.tmp 4 4]) Try.func5 rfl Try.ntmps5 (by kernel_rfl) rfl (by decide) F5 (np := 2) ?_ ?_
  · intro ts h; unfold F5; split <;> first | rfl | (simp at h; done)
  intro ts H r hF hwf
  unfold F5 at hF
  split at hF <;> try (cases hF; done)
  split at hF <;> try (cases hF; done)
  rename_i l ac hl hac
  cases hF
  obtain rfl := inv_inv hl
  obtain rfl := inv_inv hac
  
  have h0 := coins_cc l
  have hsm := small_cc ac
  simp only [coinsT]
  rw [vactT_st] at hsm ⊢
  show AWM 0 _ _ _ _ _
  refine AWM.seq ?_
  refine St (And.intro @entry.eq_1 <| @entry.eq_2) ct5 ?_
  show AWM _ _ _ _ _ _
  refine AWM.seq ?_
  cases hok : okCs l with
  | false =>
    rw [hok] at h0
    repeat refine St (And.intro h0 <| @F8.eq_def) ct5 ?_
    refine AWP.ret (ret_early (fn := Try.f5) (y := .skip) E_ok (rs := [.tmp 4 4]) rfl ?_)
    exact Fin trivial [] []
  | true =>
  rw [hok] at h0
  cases hsk : smV ac with
  | false =>
    rw [hsk] at hsm
    repeat refine St (And.intro h0 <| And.intro hsm <| @F8.eq_def) ct5 ?_
    refine AWP.ret (ret_early (fn := Try.f5) (y := .skip) E_ok (rs := [.tmp 4 4]) rfl ?_)
    exact Fin trivial [] []
  | true =>
  rw [hsk] at hsm
  repeat refine St (And.intro h0 <| hsm) ct5 ?_
  show AWM _ _ _ _ _ _
  obtain ⟨hlen, hlow⟩ := okCs_ok hok
  have hao := smV_ok hsk
  have hld := load_c l (by omega) hlow
  have herr := addsV_err l []
  obtain ⟨ao1, ao2⟩ := addsV_ok l [] rfl hlow
  generalize addsV [] l = A at *
  obtain ⟨L, e⟩ := A
  dsimp only at herr ao1 ao2
  simp only [List.length_nil, Nat.zero_add] at herr ao2
  refine AWM.seq ?_
  by_cases he : e = 0
  rotate_left
  · have e32 : e = 32 := herr.resolve_left (fun h => he h.1)
    subst e32
    rw [show loadR (L, 32) = ([], .tup [.t .nilp, .t (.int .i64 32)]) from if_neg he] at hld
    repeat refine St hld ct5 ?_
    show AWM _ _ _ _ _ _
    refine AWM.seq ?_
    repeat refine St @F8.eq_def ct5 ?_
    refine AWP.ret (ret_early (fn := Try.f5) (y := .skip) E_ok (rs := [.tmp 4 4]) rfl ?_)
    exact Fin trivial [] []
  subst he
  rw [show loadR (L, 0) = (vwH L, .tup [.ptr 0 0 [], .t (.int .i64 0)]) from if_pos rfl] at hld
  have hLi := list_c L (by omega) ao1
  have hCo := copy_c L (by omega) ao1
  have hdo := do_c L ac (by omega) ao1 hao
  rw [vactT_st] at hdo
  obtain ⟨d1, d2, d3, d4⟩ := doV_low ao1 hao
  have dsm := doV_same (l := L) (a := ac)
  generalize doV L ac = D at *
  obtain ⟨L1, sp, ed⟩ := D
  dsimp only at hdo d1 d2 d3 d4 dsm
  have hL1 := list_c L1 (by omega) d1
  have hsL := sames_cc L L (by omega) (by omega)
  have hsL1 := sames_cc L1 L1 (by omega) (by omega)
  rw [samesB_self] at hsL hsL1
  simp only [vwN, vwH, toldT, List.cons_append, List.nil_append] at hld hLi hCo hdo hL1
  repeat refine St hld ct5 ?_
  show AWM _ _ _ _ _ _
  refine AWM.seq ?_
  repeat refine St hld ct5 ?_
  show AWM _ _ _ _ _ _
  refine AWM.seq ?_
  repeat refine St hLi ct5 ?_
  show AWM _ _ _ _ _ _
  refine AWM.seq ?_
  repeat refine St hCo ct5 ?_
  show AWM _ _ _ _ _ _
  refine AWM.seq ?_
  repeat refine St hdo ct5 ?_
  show AWM _ _ _ _ _ _
  refine AWM.cut ⟨[(5, .ptr 0 0 [])], [.bx (.st [.own 1]), .sq 37 (L1.map coinT)]⟩ ?_ ?_
  · by_cases hed : ed = 0
    · subst hed
      have hd0 : ((0 : Int) != 0) = false := rfl
      repeat refine St (And.intro hLi <| And.intro hL1 <| And.intro hsL <| And.intro hsL1 <| hd0) ct5 ?_
      exact (Wt trivial [5] [1, 6])
    · have hd0 : (ed != 0) = true := by simpa using hed
      obtain rfl := dsm hed
      repeat refine St (And.intro hLi <| And.intro hL1 <| And.intro hsL <| And.intro hsL1 <| hd0) ct5 ?_
      exact (Wt trivial [5] [1, 6])
  clear hLi hCo hdo hld h0 hsm hsL d3 d4 dsm ao1 herr
  refine AWM.seq ?_
  repeat refine St hL1 ct5 ?_
  show AWM _ _ _ _ _ _
  refine AWM.weak (S' := ⟨[(5, .ptr 0 0 []), (10, .t (.sq 37 (L1.map coinT)))], vwH L1⟩) (Weak.trans (Weak.freeze 2) (Weak.trans (Weak.thawS 10 (y := .sq 37 (L1.map coinT)) rfl) (Wt @vwH.eq_def [5, 10] [0, 1]))) ?_
  intro c hc m1 w1 a1 hi1 hs1
  -- region 12: spoilt := v.List()
  refine wpIn_seq ?_
  refine wpIn_region_lit ?_
  refine reg_pre X_ok ct5.cl (pre := [_]) (rest := [_, _]) (S := ⟨_, _⟩) (c := ctxK w1 m1 (vwH L1) 2) rfl (Ev trivial) (inv_ctxK hi1 (by simp [vwH])) hs1 (fun _ => False) (fun _ h => h.elim) (fun m2 w2 a2 i2 r2 _ => ?_)
  have hi2 : Inv c m2 w2 (vwH L1) := inv_comp hi1 (by rw [hc]; exact Nat.zero_le _) i2
  have hv5 : RelA m2 (.ptr 0 0 []) (a2.tmps.getD 65 undef) := r2.2.2 65
  refine wpListIn_plain rfl fun K hK => ⟨fun _ _ => trivial, ?_⟩
  have hrun : (execOp a2.eval { dst := some 66, op := Op.call { callee := Callee.value (Operand.func 10), args := #[Operand.tmp 65], argTypes := #[29] }, type := 22, pos := "law.go:178", after := #[{ on := 0, ground := Ground.data }], guard := none }).run Try.prog w2 = .ok (.enter 10 #[a2.tmps.getD 65 undef]) w2 := by
    have e2 := run_enter (P := Try.prog) Try.func10 (by kernel_rfl) (by kernel_rfl) #[a2.tmps.getD 65 undef] w2
    simp [execOp, resolve, Act.eval, Deferred.ofValue, invoke]
  rw [Oper.semAt_eq _ _ _ (by intro c h; cases h), hrun]
  refine ⟨fun hd => by simp [Fence.wide] at hd, callsIn_at ((listF L1 (by omega) d1 (vs := [a2.tmps.getD 65 undef]) (inv_ctxK (k := 2) hi2 (by simp [vwH])) rfl (fun i x hx => by
    match i, hx with
    | 0, hx => cases hx; exact ⟨_, rfl, hv5⟩)).mono fun e w3 he => ?_)⟩
  obtain ⟨m3, us, v, rfl, hM3, hus, hi3, hv3, hF3⟩ := he
  show K (a2.put (some 66) v) w3
  refine hK _ _ ?_
  clear hK K hrun
  have hn1 : c.w0.heap.size ≤ w2.heap.size := hi2.size
  have hext : Ext m2 m3 := ⟨hM3, by rw [hi2.len, hi3.len]; simp [vwH], fun i hi => (hi3.keep i (by rw [hi2.len] at hi; exact hi)).2⟩
  have r3 : RelS m3 99 (a2.put (some 66) v) [(66, .own 2), (5, .ptr 0 0 []), (10, .t (.sq 37 (L1.map coinT)))] :=
    RelS.puts (o := { dst := some 66, op := .move (.tmp 0), type := 0, pos := "", after := #[], guard := none }) (RelS.mono (r2.prune [5, 10]) hext) hv3 rfl
  have hI3 : Inv c m3 w3 (vwH L1 ++ [.sq 37 (opC L1 us)]) := inv_comp hi2 (by rw [hc]; exact Nat.zero_le _) hi3
  have hFF : ∀ u ∈ us, FS m3 (vwH L1 ++ [.sq 37 (opC L1 us)]) w3 c.w0.heap.size u := fun u hu => by
    obtain ⟨x, len, cap, h1, h2, h3⟩ := hF3 u hu
    exact ⟨x, len, cap, h1, h2, h3.imp id fun ⟨b, cs, e, q1, q2, q3⟩ => ⟨b, cs, e, q1, Nat.le_trans hn1 q2, q3⟩⟩
  generalize a2.put (some 66) v = a3 at *
  clear hi3 hF3 hM3 hext hv3 hv5 r2 i2 hs1 hn1
  refine reg_pre X_ok ct5.cl (pre := [_]) (rest := []) (S := ⟨_, _⟩) (c := ctxK w3 m3 (vwH L1 ++ [.sq 37 (opC L1 us)]) 3) rfl (Ev trivial) (inv_ctxK hI3 (by simp [vwH])) r3 (fun _ => False) (fun _ h => h.elim) (fun m4 w4 a4 i4 r4 _ => wpListIn_nil ?_)
  have hI4 : Inv c m4 w4 (vwH L1 ++ [.sq 37 (opC L1 us)]) := inv_comp hI3 (by rw [hc]; exact Nat.zero_le _) i4
  have hF4 : ∀ u ∈ us, FS m4 (vwH L1 ++ [.sq 37 (opC L1 us)]) w4 c.w0.heap.size u := fun u hu => (hFF u hu).next i4
  have s4 : RelS m4 99 a4 [(11, .own 2), (5, .ptr 0 0 []), (10, .t (.sq 37 (L1.map coinT)))] := r4.prune [11, 5, 10]
  clear i4 r4 hI3 hFF r3 hi1 hi2
  show Code.wpIn _ _ _ _ _ _ _
  refine wpIn_seq ?_
  refine spoil L1 (by omega) hc hus hI4 s4 hF4 fun m5 w5 a5 hI5 s5 => ?_
  clear hI4 s4 hF4
  show Code.wpIn _ _ _ _ _ _ _
  refine AWM.app (K := fun c => bodyPostM Fence.wide 0 Try.prog Try.f5 (Rg c [] (.t (.bool true)))) (S := ⟨_, _⟩) ?_ hc hI5 s5
  refine AWM.seq ?_
  repeat refine St (And.intro @F8.eq_def <| And.intro hL1 <| And.intro hsL1 <| @vwH.eq_def) ct5 ?_
  show AWM _ _ _ _ _ _
  refine AWM.retE (ret_early (fn := Try.f5) (y := .skip) E_ok (rs := [.tmp 4 4]) rfl ?_)
  exact Fin trivial [] []

end Go.Fw

end
