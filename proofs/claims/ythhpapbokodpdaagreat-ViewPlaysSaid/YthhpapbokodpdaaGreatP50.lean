/- The abstract machine, and the contracts of the code: part 50. -/
import Derived.LoopIn
import Derived.Test.YthhpapbokodpdaaGreatP49
set_option linter.unusedVariables false
set_option linter.unusedSimpArgs false

section
namespace Go.Fw
open Go Go.Proofs Go.RowKit
def cntA (a : Act) : Nat := match a.tmps.getD 3 undef with
 | .int _ z => (z + 1).toNat
 | _ => 0
set_option maxRecDepth 8000 in
set_option maxHeartbeats 4000000 in
theorem back_in {c : Ctx} {m0 : Mem} {k j bj l D : Nat} {rec : Loop} {Hs : Nat → List Blk} (X : List TCoin) (hX : X.length ≤ 1000000)
   (hj : j < k) (hck : c.k ≤ k) (hH : ∀ i, k ≤ (Hs i).length) (hHj : ∀ i, (Hs i)[j]? = some (.bx (.t (.sq 37 (X.map coinT)))))
   (hbj : blk (m0.η j) = some bj) (Jx : World → Prop) (Gi : Nat → Prop) (hG0 : Gi 0)
   (hY : ∀ i, i < X.length → Gi i → ∀ m wd, Jk c m0 k l D rec (Hs i) m wd → ∀ v, RelT m.M (coinT (X.getD (X.length - 1 - i) dCoin)) v →
     ∃ fn tmps assign body, (Instr.yield l #[.int .i64 ((X.length - 1 - i : Nat) : Int), v]).run Tryz.prog wd = .ok (.round l fn tmps assign body) wd ∧
       RoundIn Fence.wide 0 Tryz.prog l fn tmps assign body wd fun e wd' => (e = .returned (.bool true) ∧ Gi (i + 1) ∧ ∃ m', Jk c m0 k l D rec (Hs (i + 1)) m' wd') ∨ (e = .returned (.bool false) ∧ Jx wd'))
   {m : Mem} {wd : World} (h0 : Jk c m0 k l D rec (Hs 0) m wd) :
   CallsIn Fence.wide 0 Tryz.prog 74 #[.func (.yield l) #[] #[], .pointer (some ⟨bj, 0, none⟩)] wd fun e wd' => (∃ v, e = .returned v) ∧ ((Gi X.length ∧ ∃ m', Jk c m0 k l D rec (Hs X.length) m' wd') ∨ Jx wd') := by
 refine callsIn_of_wp (F := Fence.wide) (n := 0) Tryz.func74 rfl trivial ?_
 obtain ⟨a0, ha0⟩ : ∃ a0 : Act, a0 = { tmps := #[.func (.yield l) #[] #[], .pointer (some ⟨bj, 0, none⟩)] ++ Array.replicate (Tryz.f74.ntmps - 2) undef, defers := [] } := ⟨_, rfl⟩
 have hs0 : RelS m 19 a0 [(1, .ptr j 0 [])] := by
   subst ha0
   refine ⟨rfl, rfl, fun i => ?_⟩
   by_cases h1 : i = 1
   · subst h1
     exact .ptr (h0.η j hj).1 (by rw [(h0.η j hj).2]; exact hbj)
   · have : lk i [(1, AV.ptr j 0 [])] = .any := by simp [lk, h1]
     rw [this]
     exact .any
 have hy0 : a0.tmps.getD 0 undef = .func (.yield l) #[] #[] := by subst ha0; rfl
 show Code.wpIn _ _ _ _ _ _ _
 have hgo : ∀ (C : Code) (Q : Exit → Act → World → Prop), C.wpIn Fence.wide 0 Tryz.prog Q a0 wd → C.wpIn Fence.wide 0 Tryz.prog Q { tmps := #[.func (.yield l) #[] #[], .pointer (some ⟨bj, 0, none⟩)] ++ Array.replicate (Tryz.f74.ntmps - 2) undef, defers := [] } wd := by
   intro C Q h; rw [← ha0]; exact h
 refine hgo _ _ ?_
 clear hgo ha0
 have hml : (X.map coinT).length = X.length := List.length_map ..
 have low1 : ∀ i, lowV k (lk i [(1, AV.ptr j 0 [])]) := by
   intro i
   simp only [lk]
   split
   · exact hj
   · trivial
 have low3 : ∀ (z : Int) i, lowV k (lk i [(1, AV.ptr j 0 []), (3, AV.t (.int .i64 z))]) := by
   intro z i
   simp only [lk]
   split
   · exact hj
   · split <;> trivial
 have low4 : ∀ (z : Int) (b : Bool) i, lowV k (lk i [(1, AV.ptr j 0 []), (3, AV.t (.int .i64 z)), (17, AV.t (.bool b))]) := by
   intro z b i
   simp only [lk]
   split
   · exact hj
   · split
     · trivial
     · split <;> trivial
 have hw1 : IntKind.i64.wrap ((X.length : Int) - 1) = (X.length : Int) - 1 := by rw [wrap_i64 (by omega) (by omega)]
 have hHj0 := hHj 0
 refine wpIn_seq ?_
 refine reg_step X_ok (GClOk.nil _) (S := ⟨[(1, .ptr j 0 [])], Hs 0⟩) (c := ctxK wd m (Hs 0) k) rfl (Ev (And.intro hHj0 <| And.intro hml hw1)) (inv_ctxK h0.inv (hH 0)) hs0 (fun i => i = 0) (by intro i hi o ho; subst hi; revert o; decide) (fun m1 w1 a1 i1 r1 k1 => ?_)
 have j1 := h0.next hck i1
 have r1' : RelS m1 19 a1 [(1, .ptr j 0 []), (3, .t (.int .i64 ((X.length : Int) - 1 - ((0 : Nat) : Int))))] := by
   have := r1.prune [1, 3]
   simp only [Fw.prune, List.map_cons, List.map_nil, lk, ↓reduceIte, Nat.reduceEqDiff] at this
   rw [show (X.length : Int) - 1 - ((0 : Nat) : Int) = (X.length : Int) - 1 by omega]
   exact this
 have y1 : a1.tmps.getD 0 undef = .func (.yield l) #[] #[] := (k1 0 rfl).trans hy0
 clear i1 r1 k1 h0 hs0 hy0 hw1
 have val3 : ∀ {m : Mem} {a : Act} {z : Int}, RelS m 19 a [(1, .ptr j 0 []), (3, .t (.int .i64 z))] → cntA a = (z + 1).toNat := by
   intro m a z h
   have h3 := (h.2.2 3).int_inv
   unfold cntA
   rw [h3.1]
 refine wpIn_block ?_
 refine wpIn_loop (fun a wd' => ∃ i m, i ≤ X.length ∧ Gi i ∧ Jk c m0 k l D rec (Hs i) m wd' ∧ RelS m 19 a [(1, .ptr j 0 []), (3, .t (.int .i64 ((X.length : Int) - 1 - (i : Int))))] ∧ a.tmps.getD 0 undef = .func (.yield l) #[] #[]) (fun a _ => cntA a) ⟨0, m1, Nat.zero_le _, hG0, j1, r1', y1⟩ ?_
 clear j1 r1' y1
 rintro a wd' ⟨i, m2, hi, hGi, j2, r2, y2⟩
 have hcnt := val3 r2
 by_cases hlt : i < X.length
 rotate_left
 · obtain rfl : i = X.length := by omega
   have hge : ((0 : Int) ≤ (X.length : Int) - 1 - (X.length : Int)) = False := eq_false (by omega)
   refine wpIn_seq (wpIn_seq ?_)
   refine reg_step X_ok (GClOk.nil _) (S := ⟨[(1, .ptr j 0 []), (3, .t (.int .i64 ((X.length : Int) - 1 - (X.length : Int))))], Hs X.length⟩) (c := ctxK wd' m2 (Hs X.length) k) rfl (Ev hge) (inv_ctxK j2.inv (hH _)) r2 (fun i => i = 0) (by intro i hi o ho; subst hi; revert o; decide) (fun m3 w3 a3 i3 r3 k3 => ?_)
   have j3 := j2.next hck i3
   have e8 : a3.eval (.tmp 8) = .bool false := (r3.2.2 8).bool_inv
   refine wpIn_cond_false e8 (wpIn_exit ?_)
   exact ⟨r3.1, _, results_none rfl _ _ _, ⟨_, rfl⟩, .inl ⟨hGi, m3, j3⟩⟩
 obtain ⟨z, hz⟩ : ∃ z : Nat, z = X.length - 1 - i := ⟨_, rfl⟩
 have hzi : (X.length : Int) - 1 - (i : Int) = (z : Int) := by omega
 rw [hzi] at r2 hcnt
 have hge : ((0 : Int) ≤ (z : Int)) = True := eq_true (by omega)
 have hzl : z < X.length := by omega
 have hzl2 : (z : Int) < (X.length : Int) := by omega
 have hg := coin_getD X z hzl
 rw [coinT_st] at hg
 have hHji := hHj i
 refine wpIn_seq (wpIn_seq ?_)
 refine reg_step X_ok (GClOk.nil _) (S := ⟨[(1, .ptr j 0 []), (3, .t (.int .i64 (z : Int)))], Hs i⟩) (c := ctxK wd' m2 (Hs i) k) rfl (Ev hge) (inv_ctxK j2.inv (hH _)) r2 (fun i => i = 0) (by intro i hi o ho; subst hi; revert o; decide) (fun m3 w3 a3 i3 r3 k3 => ?_)
 have j3 := j2.next hck i3
 have e8 : a3.eval (.tmp 8) = .bool true := (r3.2.2 8).bool_inv
 refine wpIn_cond_true e8 (wpIn_skip ?_)
 have r3' : RelS m3 19 a3 [(1, .ptr j 0 []), (3, .t (.int .i64 (z : Int)))] := by
   have := r3.prune [1, 3]
   simp only [Fw.prune, List.map_cons, List.map_nil, lk, ↓reduceIte, Nat.reduceEqDiff] at this
   exact this
 have y3 : a3.tmps.getD 0 undef = .func (.yield l) #[] #[] := (k3 0 rfl).trans y2
 clear r3 k3 i3 r2 y2 j2 e8 hge
 refine wpIn_seq (wpIn_block (wpIn_seq (wpIn_region_lit ?_)))
 refine wpListIn_plain rfl fun K hK => ⟨fun _ _ => trivial, ?_⟩
 show K (a3.put (some 11) (a3.tmps.getD 0 undef)) w3
 rw [y3]
 refine hK _ _ ?_
 clear hK K
 have r4 : RelS m3 19 (a3.put (some 11) (.func (.yield l) #[] #[])) ((11, .any) :: [(1, .ptr j 0 []), (3, .t (.int .i64 (z : Int)))]) :=
   RelS.puts (o := { dst := some 11, op := .move (.tmp 0), type := 0, pos := "", after := #[], guard := none }) r3' .any rfl
 have y4 : (a3.put (some 11) (.func (.yield l) #[] #[])).tmps.getD 0 undef = .func (.yield l) #[] #[] := (put_tmp _ _ _ 0 (by decide)).trans y3
 have y5 : (a3.put (some 11) (.func (.yield l) #[] #[])).tmps.getD 11 undef = .func (.yield l) #[] #[] := by
   have := r3'.2.1
   simp [Act.put, this]
 generalize a3.put (some 11) (.func (.yield l) #[] #[]) = a4 at *
 refine reg_pre X_ok (GClOk.nil _) (pre := [_, _, _, _, _]) (rest := [_, _]) (S := ⟨(11, .any) :: [(1, .ptr j 0 []), (3, .t (.int .i64 (z : Int)))], Hs i⟩) (c := ctxK w3 m3 (Hs i) k) rfl (Ev (And.intro hHji <| And.intro hml <| And.intro hzl <| And.intro hzl2 hg)) (inv_ctxK j3.inv (hH _)) r4 (fun i => i = 0 ∨ i = 11) (by rintro i (rfl | rfl) o ho <;> (revert o; decide)) (fun m5 w5 a5 i5 r5 k5 => ?_)
 have j5 := j3.next hck i5
 have y6 : a5.tmps.getD 0 undef = .func (.yield l) #[] #[] := (k5 0 (.inl rfl)).trans y4
 have y7 : a5.tmps.getD 11 undef = .func (.yield l) #[] #[] := (k5 11 (.inr rfl)).trans y5
 have e12 := (r5.2.2 12).int_inv
 have e16 := (r5.2.2 16).t_inv
 have r5' : RelS m5 19 a5 [(1, .ptr j 0 []), (3, .t (.int .i64 (z : Int)))] := by
   have := r5.prune [1, 3]
   simp only [Fw.prune, List.map_cons, List.map_nil, lk, ↓reduceIte, Nat.reduceEqDiff] at this
   exact this
 clear r5 k5 i5 y4 y5 r4 j3 r3'
 have hYi := hY i hlt hGi m5 w5 j5
 rw [← hz] at hYi
 obtain ⟨fn, tmps, assign, body, hy, hR⟩ := hYi _ e16
 clear hYi
 refine wpListIn_plain rfl fun K hK => ⟨fun _ _ => trivial, ?_⟩
 have hrun : (execOp a5.eval { dst := some 17, op := Op.call { callee := Callee.value (Operand.tmp 11), args := #[Operand.tmp 12, Operand.tmp 16], argTypes := #[3, 41] }, type := 4, pos := "iter.go:29", after := #[{ on := 0, ground := Ground.data }, { on := 1, ground := Ground.data }, { on := 5, ground := Ground.data }], guard := none }).run Tryz.prog w5 = .ok (.round l fn tmps assign body) w5 := by
   have ev11 : a5.eval (.tmp 11) = .func (.yield l) #[] #[] := y7
   have ev12 : a5.eval (.tmp 12) = .int .i64 (z : Int) := e12.1
   have ev16 : a5.eval (.tmp 16) = a5.tmps.getD 16 undef := rfl
   simp only [execOp, resolve, List.map_toArray, List.map_cons, List.map_nil, ev11, ev12, ev16, Deferred.ofValue, Sem.run_bind, Sem.run_pure, Result.andThen_ok, invoke]
   have ha : (#[] ++ #[Value.int .i64 (z : Int), a5.tmps.getD 16 undef] ++ #[] : Array Value) = #[.int .i64 (z : Int), a5.tmps.getD 16 undef] := by simp
   first | exact hy | (rw [ha]; exact hy)
 rw [Oper.semAt_eq _ _ _ (by intro c h; cases h), hrun]
 refine ⟨fun hd => by simp [Fence.wide] at hd, ?_⟩
 refine hR.mono fun e w6 he => ?_
 have hsz : 17 < a5.tmps.size := by rw [r5'.2.1]; decide
 have e17 : ∀ b, (a5.put (some 17) (.bool b)).eval (.tmp 17) = .bool b := by
   intro b
   show (a5.tmps.setIfInBounds 17 (.bool b)).getD 17 undef = _
   simp [hsz]
 have hnot : ∀ b, (execOp (a5.put (some 17) (.bool b)).eval { dst := some 18, op := Op.unOp UnOp.not 4 (Operand.tmp 17), type := 4, pos := "iter.go:29", after := #[{ on := 6, ground := Ground.data }], guard := none }).run Tryz.prog w6 = .ok (.value (.bool (!b))) w6 := by
   intro b
   simp [execOp, e17, Op.unary]
 rcases he with ⟨rfl, hG6, m6, j6⟩ | ⟨rfl, hx⟩
 · show K (a5.put (some 17) (.bool true)) w6
   refine hK _ _ ?_
   clear hK K hR hrun
   refine wpListIn_plain rfl fun K hK => ⟨fun _ _ => trivial, ?_⟩
   rw [Oper.semAt_eq _ _ _ (by intro c h; cases h), hnot]
   show K ((a5.put (some 17) (.bool true)).put (some 18) (.bool false)) w6
   refine hK _ _ (wpListIn_nil ?_)
   have hη : ∀ i, i < k → i < m6.n ∧ m6.η i = m5.η i := fun i hi => ⟨(j6.η i hi).1, (j6.η i hi).2.trans (j5.η i hi).2.symm⟩
   have r6 := RelS.low hη (low3 (z : Int)) r5'
   have r7 : RelS m6 19 ((a5.put (some 17) (.bool true)).put (some 18) (.bool false)) [(1, .ptr j 0 []), (3, .t (.int .i64 (z : Int)))] := by
     refine ⟨r6.1, ?_, fun i => ?_⟩
     · simp only [Act.put, Array.size_setIfInBounds]; exact r6.2.1
     · by_cases h18 : i = 18
       · subst h18; exact .any
       · by_cases h17 : i = 17
         · subst h17; exact .any
         · rw [put_tmp _ _ _ i (by simpa using fun e => h18 e.symm), put_tmp _ _ _ i (by simpa using fun e => h17 e.symm)]
           exact r6.2.2 i
   have y8 : ((a5.put (some 17) (.bool true)).put (some 18) (.bool false)).tmps.getD 0 undef = .func (.yield l) #[] #[] := by
     rw [put_tmp _ _ _ 0 (by decide), put_tmp _ _ _ 0 (by decide)]
     exact y6
   have e18 : ((a5.put (some 17) (.bool true)).put (some 18) (.bool false)).eval (.tmp 18) = .bool false := by
     show ((a5.tmps.setIfInBounds 17 (.bool true)).setIfInBounds 18 (.bool false)).getD 18 undef = _
     have hsz2 : 18 < a5.tmps.size := by rw [r5'.2.1]; decide
     simp [hsz2]
   generalize (a5.put (some 17) (.bool true)).put (some 18) (.bool false) = a7 at *
   refine wpIn_cond_false e18 (wpIn_skip ?_)
   have hw2 : IntKind.i64.wrap ((z : Int) - 1) = (z : Int) - 1 := by rw [wrap_i64 (by omega) (by omega)]
   refine reg_step X_ok (GClOk.nil _) (S := ⟨[(1, .ptr j 0 []), (3, .t (.int .i64 (z : Int)))], Hs (i + 1)⟩) (c := ctxK w6 m6 (Hs (i + 1)) k) rfl (Ev hw2) (inv_ctxK j6.inv (hH _)) r7 (fun i => i = 0) (by intro i hi o ho; subst hi; revert o; decide) (fun m8 w8 a8 i8 r8 k8 => ?_)
   have r8' : RelS m8 19 a8 [(1, .ptr j 0 []), (3, .t (.int .i64 ((z : Int) - 1)))] := by
     have := r8.prune [1, 3]
     simp only [Fw.prune, List.map_cons, List.map_nil, lk, ↓reduceIte, Nat.reduceEqDiff] at this
     exact this
   have hcn := val3 r8'
   refine ⟨⟨i + 1, m8, by omega, hG6, j6.next hck i8, ?_, (k8 0 rfl).trans y8⟩, ?_⟩
   · rw [show (X.length : Int) - 1 - ((i + 1 : Nat) : Int) = (z : Int) - 1 by omega]
     exact r8'
   · rw [hcn, hcnt]; omega
 · show K (a5.put (some 17) (.bool false)) w6
   refine hK _ _ ?_
   refine wpListIn_plain rfl fun K hK => ⟨fun _ _ => trivial, ?_⟩
   rw [Oper.semAt_eq _ _ _ (by intro c h; cases h), hnot]
   show K ((a5.put (some 17) (.bool false)).put (some 18) (.bool true)) w6
   refine hK _ _ (wpListIn_nil ?_)
   have e18 : ((a5.put (some 17) (.bool false)).put (some 18) (.bool true)).eval (.tmp 18) = .bool true := by
     show ((a5.tmps.setIfInBounds 17 (.bool false)).setIfInBounds 18 (.bool true)).getD 18 undef = _
     have hsz2 : 18 < a5.tmps.size := by rw [r5'.2.1]; decide
     simp [hsz2]
   refine wpIn_cond_true e18 (wpIn_ret ?_)
   exact ⟨r5'.1, _, results_none rfl _ _ _, ⟨_, rfl⟩, .inr hx⟩
end Go.Fw

end

section
namespace Go.Fw
open Go Go.Proofs Go.RowKit
set_option maxHeartbeats 4000000 in
theorem rev_tail {assign body y : Code} {N kp k j b g p1 p2 : Nat} {fn : Func} {rs : List RS} (hres : fn.results.toList = rs.map RS.var) {H : List Blk} {r : AV}
   (X : List TCoin) (hXl : X.length ≤ 1000000) {Hs : Nat → List Blk} {Hx : List Blk} {Gi : Nat → Prop} {sL : Slots} {S1 : Nat → AS}
   (hj : j < k) (hkk : kp ≤ k) (hp : p1 ≠ p2) (hp1 : p1 < N) (hp2 : p2 < N) (hp1s : lk p1 sL = .any)
   (hH : ∀ i, k ≤ (Hs i).length) (hHj : ∀ i, (Hs i)[j]? = some (.bx (.t (.sq 37 (X.map coinT))))) (hlow : ∀ i, lowV k (lk i sL)) (hG0 : Gi 0)
   (hA : ∀ l i, i < X.length → Gi i → AWF (some l) [] k Tryz.prog N assign (fun e S => e = .normal ∧ Weak k N S (S1 i)) ⟨(p2, .t (coinT (X.getD (X.length - 1 - i) dCoin))) :: sL, Hs i⟩)
   (hk1 : ∀ i, k ≤ (S1 i).H.length)
   (hB : ∀ l i, i < X.length → Gi i → AWF (some l) [] k Tryz.prog N body (fun e S => (e = .normal ∧ Gi (i + 1) ∧ Weak k N S ⟨[], Hs (i + 1)⟩) ∨ (e = .ret ∧ Weak k N S ⟨[], Hx⟩)) (S1 i))
   (hC : ∀ D, Gi X.length → AWF none [{ target := .collected D, args := #[] }] kp Tryz.prog N y (fun e S => e = .ret ∧ cretQ E rs kp H r .ret S) ⟨sL, Hs X.length⟩)
   (hX : cretQ E rs kp H r .ret ⟨sL, Hx⟩)
   {c : Ctx} (hc : c.k = kp) {m0 : Mem} {w0 : World} {a : Act} (hi0 : Inv c m0 w0 (Hs 0)) (hs0 : RelS m0 N a ((g, .clo 74 [.ptr j 0 []]) :: sL)) (hgs : lk g sL = .any) :
   (Code.block b (Code.rangeFunc (.tmp g) #[p1, p2] assign body)).wpIn Fence.wide 0 Tryz.prog
     (Exit.then (y.wpIn Fence.wide 0 Tryz.prog (bodyPostM Fence.wide 0 Tryz.prog fn (Rg c H r))) (bodyPostM Fence.wide 0 Tryz.prog fn (Rg c H r))) a w0 := by
 have hck : c.k ≤ k := by omega
 have hg := hs0.2.2 g
 rw [show lk g ((g, AV.clo 74 [.ptr j 0 []]) :: sL) = .clo 74 [.ptr j 0 []] by simp [lk]] at hg
 obtain ⟨bj, hbj, hgv⟩ : ∃ bj, blk (m0.η j) = some bj ∧ a.tmps.getD g undef = .func (.func 74) #[] #[.pointer (some ⟨bj, 0, none⟩)] := by
   generalize a.tmps.getD g undef = v at hg
   generalize hx : AV.clo 74 [.ptr j 0 []] = x at hg
   cases hg <;> cases hx
   rename_i vs ha hr
   obtain ⟨bj, h1, h2, h3⟩ := (hr 0 (.ptr j 0 []) rfl).ptr_inv
   refine ⟨bj, h3, ?_⟩
   rw [fnV_lt (by decide)]
   congr 1
   apply Array.ext
   · simpa using ha
   · intro i hi1 hi2
     obtain rfl : i = 0 := by simp at ha; omega
     rw [Array.getD_eq_getD_getElem?, Array.getElem?_eq_getElem hi1] at h1
     simpa using h1
 have hsL : RelS m0 N a sL := ⟨hs0.1, hs0.2.1, fun i => by
   by_cases e : i = g
   · subst e; rw [hgs]; exact .any
   · have := hs0.2.2 i
     rwa [show lk i ((g, AV.clo 74 [.ptr j 0 []]) :: sL) = lk i sL by simp [lk, e]] at this⟩
 refine wpIn_block (wpIn_rangeFunc fun fnn _ => ?_)
 obtain ⟨rec, hrec⟩ : ∃ rec : LoopState → Option Code → Loop, rec = fun st pe => { state := st, pending := pe, fn := fnn, tmps := a.tmps, params := #[p1, p2], assign, body, defers := w0.heap.size } := ⟨_, rfl⟩
 obtain ⟨w1, hw1⟩ : ∃ w1, (w0.alloc (.deferred (some []))).alloc (.loop (rec .ready none)) = w1 := ⟨_, rfl⟩
 have hL1 : w1.heap[w0.heap.size + 1]? = some (.loop (rec .ready none)) := by
   rw [← hw1]; have := World.alloc_heap_new (w0.alloc (.deferred (some []))) (.loop (rec .ready none)); rwa [World.size_alloc] at this
 have hD1 : w1.heap[w0.heap.size]? = some (.deferred (some [])) := by
   rw [← hw1]; exact (Below.heap_alloc _ _ _ (by simp)).trans (World.alloc_heap_new w0 _)
 have hMn : ∀ q, w0.heap.size ≤ q → m0.M q = none := by
   intro q hq
   cases hx : m0.M q with
   | none => rfl
   | some o =>
     have := lt_of_heap (hi0.imm q o hx)
     omega
 have j1 : Jk c m0 k (w0.heap.size + 1) w0.heap.size (rec .ready none) (Hs 0) m0 w1 :=
   ⟨by rw [← hw1]; exact inv_alloc (inv_alloc hi0 _) _, .refl _, fun i hi => ⟨by rw [hi0.len]; exact Nat.lt_of_lt_of_le hi (hH 0), rfl⟩, hL1, hD1, hMn _ (by omega), hMn _ (Nat.le_refl _)⟩
 have hcl : c.w0.heap.size ≤ w0.heap.size + 1 := Nat.le_succ_of_le hi0.size
 have hcD : c.w0.heap.size ≤ w0.heap.size := hi0.size
 have hnD : w0.heap.size + 1 ≠ w0.heap.size := by omega
 have hen : (Instr.enterLoop fnn a.tmps #[p1, p2] assign body none).run Tryz.prog w0 = .ok (w0.heap.size + 1, [{ target := .collected w0.heap.size, args := #[] }]) w1 := by
   rw [← hw1, hrec]; exact run_enterLoop_outer _ _ _ _ _
 clear hw1 hMn
 generalize w0.heap.size + 1 = l at *
 generalize hDD : w0.heap.size = D at *
 refine ⟨l, [{ target := .collected D, args := #[] }], w1, { target := .fn (.func 74) #[.pointer (some ⟨bj, 0, none⟩)], args := #[.func (.yield l) #[] #[]] }, w1, 74, #[.func (.yield l) #[] #[], .pointer (some ⟨bj, 0, none⟩)], w1, ?_, ?_, fun _ _ => trivial, ?_, fun hd => by simp [Fence.wide] at hd, ?_⟩
 · exact hen
 · have hev : a.eval (.tmp g) = a.tmps.getD g undef := rfl
   simp only [resolve, hev, hgv]
   simp [go_sem]
 · have he := run_enter (P := Tryz.prog) Tryz.func74 (by kernel_rfl) (by kernel_rfl) #[.func (.yield l) #[] #[], .pointer (some ⟨bj, 0, none⟩)] w1
   simp only [invoke]
   exact he
 have hmore : ({ a with defers := [{ target := .collected D, args := #[] }] ++ a.defers } : Act) = Act.more a [{ target := .collected D, args := #[] }] := by
   simp [Act.more, hs0.1]
 have hηm : ∀ {H : List Blk} {m : Mem} {w : World} {rc : Loop}, Jk c m0 k l D rc H m w → RelS m N a sL := fun h => RelS.low h.η hlow hsL
 refine CallsIn.mono (back_in X hXl hj hck hH hHj hbj (fun wd => ∃ m, Jk c m0 k l D (rec .done (some .ret)) Hx m wd) Gi hG0 ?_ j1) ?_
 · intro i hi hGi m wd hjk v hv
   have hy := run_yield (P := Tryz.prog) (args := #[.int .i64 ((X.length - 1 - i : Nat) : Int), v]) hjk.rl (by rw [hrec]; rfl)
   rw [hrec] at hy
   refine ⟨_, _, _, _, hy, roundIn_of_wpIn trivial ?_⟩
   have hr0 := hηm hjk
   have hr1 : RelS m N (a.put (some p1) (.int .i64 ((X.length - 1 - i : Nat) : Int))) ((p1, .any) :: sL) :=
     RelS.puts (o := { dst := some p1, op := .move (.tmp 0), type := 0, pos := "", after := #[], guard := none }) hr0 .any (if_pos hp1)
   have hr2 : RelS m N ((a.put (some p1) (.int .i64 ((X.length - 1 - i : Nat) : Int))).put (some p2) v) ((p2, .t (coinT (X.getD (X.length - 1 - i) dCoin))) :: (p1, .any) :: sL) :=
     RelS.puts (o := { dst := some p2, op := .move (.tmp 0), type := 0, pos := "", after := #[], guard := none }) hr1 (.t hv) (if_pos hp2)
   have hr3 : RelS m N { tmps := (#[p1, p2].zip #[.int .i64 ((X.length - 1 - i : Nat) : Int), v]).foldl (fun t (p, a) => t.setIfInBounds p a) a.tmps, defers := [] } ((p2, .t (coinT (X.getD (X.length - 1 - i) dCoin))) :: sL) := by
     have hfo : (#[p1, p2].zip #[.int .i64 ((X.length - 1 - i : Nat) : Int), v]).foldl (fun t (p, a) => t.setIfInBounds p a) a.tmps = ((a.put (some p1) (.int .i64 ((X.length - 1 - i : Nat) : Int))).put (some p2) v).tmps := by simp [Act.put]
     rw [hfo]
     refine ⟨rfl, hr2.2.1, fun q => ?_⟩
     have := hr2.2.2 q
     have e : lk q ((p2, AV.t (coinT (X.getD (X.length - 1 - i) dCoin))) :: (p1, .any) :: sL) = lk q ((p2, AV.t (coinT (X.getD (X.length - 1 - i) dCoin))) :: sL) := by
       simp only [lk]
       split
       · rfl
       · split
         · rename_i e; rw [e, hp1s]
         · rfl
     rw [e] at this
     exact this
   show Code.wpIn (wideAt (some l)) _ _ _ _ _ _
   refine wpIn_mono ((hA l i hi hGi).run0 (n := 0) (c := ctxK wd m (Hs i) k) rfl (inv_ctxK hjk.inv (hH i)) hr3) ?_
   rintro e a1 w2 ⟨m2, S2, h1, h2, rfl, hwk⟩
   obtain ⟨m2, h1, h2⟩ := hwk _ rfl m2 w2 a1 h1 h2
   have j2 := hjk.next hck h1
   refine ⟨_, run_beginRound j2.rl (by rw [hrec]), ?_⟩
   have j3 := j2.put hcl hnD { rec .ready none with state := .busy }
   refine wpIn_mono ((hB l i hi hGi).run0 (n := 0) rfl (inv_ctxK j3.inv (hk1 i)) h2) ?_
   rintro e a3 w3 ⟨m3, S3, h3, h4, hq⟩
   rcases hq with ⟨rfl, hG, hw⟩ | ⟨rfl, hw⟩
   · obtain ⟨m4, h5, _⟩ := hw _ rfl m3 w3 a3 h3 h4
     have j4 := j3.next hck h5
     refine ⟨_, _, run_endRound none j4.rl, .inl ⟨rfl, hG, m4, ?_⟩⟩
     have j5 := j4.put hcl hnD (rec .ready none)
     rw [hrec] at j5 ⊢
     exact j5
   · obtain ⟨m4, h5, _⟩ := hw _ rfl m3 w3 a3 h3 h4
     have j4 := j3.next hck h5
     refine ⟨_, _, run_endRound (some .ret) j4.rl, .inr ⟨rfl, m4, ?_⟩⟩
     have j5 := j4.put hcl hnD (rec .done (some .ret))
     rw [hrec] at j5 ⊢
     exact j5
 · rintro e w2 ⟨⟨v, rfl⟩, (⟨hG, m2, j2⟩ | ⟨m2, j2⟩)⟩
   · refine ⟨none, _, (by have := run_endLoop (P := Tryz.prog) j2.rl (by rw [hrec]; simp); rw [hrec] at this; exact this), ?_⟩
     have j3 := j2.put hcl hnD { rec .ready none with state := .exhausted }
     rw [hrec] at j3
     show y.wpIn Fence.wide 0 Tryz.prog _ _ _
     rw [hmore]
     refine wpIn_mono (hC D hG 0 (ctxK _ m2 (Hs X.length) kp) rfl m2 _ a (inv_ctxK j3.inv (Nat.le_trans hkk (hH _))) (hηm j3)) ?_
     rintro e a' w5 ⟨a0, rfl, m5, S5, h5, h6, rfl, hq⟩
     obtain ⟨g1, g2⟩ := kept_obj j3.inv h5 j3.dl rfl j3.MD
     exact ret_mark E_ok hres (inv_comp j3.inv (by omega) h5) h6 (by rw [hc]; exact hq) g1 g2 hcD
   · refine ⟨some .ret, _, (by have := run_endLoop (P := Tryz.prog) j2.rl (by rw [hrec]; simp); rw [hrec] at this; exact this), ?_⟩
     have j3 := j2.put hcl hnD { rec .done (some .ret) with state := .exhausted }
     rw [hrec] at j3
     refine wpIn_ret ?_
     show bodyPostM _ _ _ _ _ .ret _ _
     rw [hmore]
     exact ret_mark E_ok hres j3.inv (hηm j3) (by rw [hc]; exact hX) j3.dl j3.MD hcD
end Go.Fw

end

section
namespace Go.Fw
open Go Go.Proofs Go.RowKit
theorem revV_ok {l : List TCoin} (h : lowL l = true) (t : TTx) (nm : H32) (first : Bool) {sp : List TCoin} (hs : lowL sp = true) :
   lowL (revV l t nm first sp).1 = true ∧ (revV l t nm first sp).1.length ≤ l.length + sp.length := by
 obtain ⟨u1, u2⟩ := unmV_ok nm t.outs.length l h
 unfold revV
 split
 · exact ⟨h, by simp⟩
 · split
   · exact ⟨h, by simp⟩
   · split
     · exact ⟨u1, by omega⟩
     · have hr : lowL sp.reverse = true := by unfold lowL at hs ⊢; rw [List.all_reverse]; exact hs
       obtain ⟨a1, a2⟩ := addsV_ok sp.reverse _ u1 hr
       rw [List.length_reverse] at a2
       exact ⟨a1, by omega⟩
def lsV (L X : List TCoin) : Nat → List TCoin
 | 0 => L
 | i + 1 => (addV (lsV L X i) (X.getD (X.length - 1 - i) dCoin)).1
theorem rev_drop (X : List TCoin) (i : Nat) (hi : i < X.length) : X.reverse.drop i = X.getD (X.length - 1 - i) dCoin :: X.reverse.drop (i + 1) := by
 rw [List.drop_eq_getElem_cons (by rw [List.length_reverse]; exact hi)]
 rw [List.getElem_reverse]
 simp [List.getD_eq_getElem?_getD, List.getElem?_eq_getElem (show X.length - 1 - i < X.length by omega)]
noncomputable def G41 : GFun
 | HB, [.ptr 0 0 [], .t x, .t (.bool first), .t y] => match inv vwH HB, inv txT x, inv coinsT y with
   | some l, some t, some sp => @ite _ ((l.length ≤ 400000 ∧ lowL l = true ∧ sp.length ≤ 10000 ∧ lowL sp = true ∧ t.ins.length ≤ 10000)) (Classical.propDecidable _) ((some (vwN (revV l t (nmH t) first sp).1, .t (.int .i64 (revV l t (nmH t) first sp).2)))) none
   | _, _, _ => none
 | _, _ => none
theorem ct41 : CT [(19, ⟨[true, false], G19⟩), (20, ⟨[true, false], G20⟩), (43, ⟨[false, false], treeG F43⟩), (55, ⟨[false], treeG F55⟩), (57, ⟨[false], treeG F57⟩), (60, ⟨[false, false], treeG F60⟩), (61, ⟨[false, false, false], treeG F61⟩), (62, ⟨[false], treeG F62⟩)] [0, 1, 2, 3, 4, 5, 8, 9, 10, 11, 12, 13, 15, 17, 18, 31, 36, 37, 38, 56, 60, 67] [] := ⟨(.cons g19 (.cons g20 (.cons c43.g (.cons c55.g (.cons c57.g (.cons c60.g (.cons c61.g (.cons c62.g (.nil _)))))))))⟩
set_option maxRecDepth 8000 in
set_option maxHeartbeats 8000000 in
theorem g41 : GCon Tryz.prog 41 G41 := by
 refine gconcM E_ok (rs := [.cell 8 27]) Tryz.func41 rfl Tryz.ntmps41 (by kernel_rfl) rfl (by decide) G41 (np := 4) ?_ ?_
 · intro HB xs h; unfold G41; split <;> first | rfl | (simp at h; done)
 intro HB xs H r hG hwf hex
 
 unfold G41 at hG
 split at hG <;> try (cases hG; done)
 rename_i x first y
 split at hG <;> try (cases hG; done)
 rename_i l t sp hl htx hsp
 split at hG
 case isFalse => cases hG
 rename_i hcc
 cases hG
 obtain ⟨hlen, hlow, hspl, hlows, hti⟩ := hcc
 obtain rfl := inv_inv hl
 obtain rfl := inv_inv htx
 obtain rfl := inv_inv hsp
 have hck := check_c t
 have hnm := name_tc t
 have hmo : (t.outs.map outT).length = t.outs.length := List.length_map ..
 have hin := inputs_c t first (by omega)
 have hil : (insR t first).length ≤ 1000000 := by unfold insR; split <;> simp <;> omega
 have hef := eqf_c sp (insR t first) (by omega) hil
 have hbw := bwd_c sp
 rw [txT_st] at hck hnm ⊢
 simp only [vwH, coinsT, refsT] at hin ⊢
 obtain ⟨R, hR⟩ : ∃ R, revV l t (nmH t) first sp = R := ⟨_, rfl⟩
 rw [hR]
 unfold revV at hR
 show AWM 2 _ _ _ _ _
 refine AWM.seq ?_
 refine St (And.intro @gentry.eq_1 <| @gentry.eq_2) ct41 ?_
 show AWM _ _ _ _ _ _
 refine AWM.seq ?_
 refine St hin ct41 ?_
 show AWM _ _ _ _ _ _
 refine AWM.seq ?_
 refine St hin ct41 ?_
 show AWM _ _ _ _ _ _
 refine AWM.seq ?_
 by_cases hc0 : chkE t = 0
 rotate_left
 · rw [if_pos hc0] at hR
   subst hR
   have hcb : (chkE t != 0) = true := by simpa using hc0
   repeat refine St (And.intro hck <| hcb) ct41 ?_
   refine AWP.weak (Weak.moveBx (v' := _) 0 1 [0] 0 _ rfl rfl rfl (by decide) (by simp only [W, eqq, ↓reduceIte, Nat.reduceEqDiff, Nat.reduceLT, Nat.reduceLeDiff, Nat.reduceAdd, Nat.reduceMul, Nat.reduceSub, Nat.reduceBEq, Int.reduceLE, Int.reduceLT, Int.reduceNeg, Int.reduceToNat, Int.reduceEq, Int.reduceBEq, Int.reduceBNe, Nat.reduceBNe, bne_self_eq_false, reduceCtorEq, gt_iff_lt, ge_iff_le]) (by simp only [W, eqq, ↓reduceIte, Nat.reduceEqDiff, Nat.reduceLT, Nat.reduceLeDiff, Nat.reduceAdd, Nat.reduceMul, Nat.reduceSub, Nat.reduceBEq, Int.reduceLE, Int.reduceLT, Int.reduceNeg, Int.reduceToNat, Int.reduceEq, Int.reduceBEq, Int.reduceBNe, Nat.reduceBNe, bne_self_eq_false, reduceCtorEq, gt_iff_lt, ge_iff_le]) (by simp only [W, eqq, ↓reduceIte, Nat.reduceEqDiff, Nat.reduceLT, Nat.reduceLeDiff, Nat.reduceAdd, Nat.reduceMul, Nat.reduceSub, Nat.reduceBEq, Int.reduceLE, Int.reduceLT, Int.reduceNeg, Int.reduceToNat, Int.reduceEq, Int.reduceBEq, Int.reduceBNe, Nat.reduceBNe, bne_self_eq_false, reduceCtorEq, gt_iff_lt, ge_iff_le]; rfl)) ?_
   refine AWP.ret (ret_early (y := .skip) E_ok (rs := [.cell 8 27]) rfl ?_)
   exact Fin @vwN.eq_def [] [0, 1, 5]
 rw [if_neg (by rw [hc0]; simp)] at hR
 have hcb : (chkE t != 0) = false := by simpa using hc0
 cases heq : eqRefs sp (insR t first) with
 | false =>
   rw [heq] at hR hef
   rw [if_pos rfl] at hR
   subst hR
   repeat refine St (And.intro hck <| And.intro hcb <| hef) ct41 ?_
   refine AWP.weak (Weak.moveBx (v' := _) 0 1 [0] 0 _ rfl rfl rfl (by decide) (by simp only [W, eqq, ↓reduceIte, Nat.reduceEqDiff, Nat.reduceLT, Nat.reduceLeDiff, Nat.reduceAdd, Nat.reduceMul, Nat.reduceSub, Nat.reduceBEq, Int.reduceLE, Int.reduceLT, Int.reduceNeg, Int.reduceToNat, Int.reduceEq, Int.reduceBEq, Int.reduceBNe, Nat.reduceBNe, bne_self_eq_false, reduceCtorEq, gt_iff_lt, ge_iff_le]) (by simp only [W, eqq, ↓reduceIte, Nat.reduceEqDiff, Nat.reduceLT, Nat.reduceLeDiff, Nat.reduceAdd, Nat.reduceMul, Nat.reduceSub, Nat.reduceBEq, Int.reduceLE, Int.reduceLT, Int.reduceNeg, Int.reduceToNat, Int.reduceEq, Int.reduceBEq, Int.reduceBNe, Nat.reduceBNe, bne_self_eq_false, reduceCtorEq, gt_iff_lt, ge_iff_le]) (by simp only [W, eqq, ↓reduceIte, Nat.reduceEqDiff, Nat.reduceLT, Nat.reduceLeDiff, Nat.reduceAdd, Nat.reduceMul, Nat.reduceSub, Nat.reduceBEq, Int.reduceLE, Int.reduceLT, Int.reduceNeg, Int.reduceToNat, Int.reduceEq, Int.reduceBEq, Int.reduceBNe, Nat.reduceBNe, bne_self_eq_false, reduceCtorEq, gt_iff_lt, ge_iff_le]; rfl)) ?_
   refine AWP.ret (ret_early (y := .skip) E_ok (rs := [.cell 8 27]) rfl ?_)
   exact Fin @vwN.eq_def [] [0, 1, 5]
 | true =>
 rw [heq] at hR hef
 rw [if_neg (by simp)] at hR
 repeat refine St (And.intro hck <| And.intro hcb <| hef) ct41 ?_
 show AWM _ _ _ _ _ _
 refine AWM.seq ?_
 refine St hnm ct41 ?_
 show AWM _ _ _ _ _ _
 have hnl : namO t = (nmH t).1 := rfl
 rw [hnl] at hnm ⊢
 obtain ⟨c1, c2, c3, _⟩ : t.ins.length ≤ 20 ∧ t.outs.length ≤ 20 ∧ (∀ x ∈ t.outs, x.scr.length ≤ 1000) ∧ _ := by
   rcases chk_two t with ⟨e1, e2, e3⟩ | ⟨e1, e2⟩
   · exact countsB_ok e2
   · rw [e1] at hc0; cases hc0
 generalize hN : nmH t = N at *
 obtain ⟨U, hU⟩ : ∃ U, unmV N t.outs.length l = U := ⟨_, rfl⟩
 rw [hU] at hR
 have hd0 : ((0 : Int) != 0) = false := rfl
 refine AWM.seq ?_
 refine AWP.weak (Weak.moveBx (v' := _) 0 1 [0] 0 _ rfl rfl rfl (by decide) (by simp only [W, eqq]) (by simp only [W, eqq]) (by simp only [W, eqq]; rfl)) ?_
 repeat refine St hmo ct41 ?_
 refine AWP.loop (G := { x : Nat × List TCoin // x.1 ≤ t.outs.length ∧ x.2.length ≤ 400000 ∧ lowL x.2 = true ∧ unmV N (t.outs.length - x.1) x.2 = U }) (fun x => ⟨[(3, .t (.sq 37 (sp.map coinT))), (4, .ptr 2 0 []), (5, .ptr 3 0 []), (8, .ptr 4 0 []), (11, .ptr 5 0 []), (36, .t (.int .i64 (t.outs.length : Int))), (37, .t (.int .i64 (x.1.1 : Int)))], [.bx (.st [.own 6]), .no, .bx (.ptr 0 0 []), .bx (.t (.st [.int .u32 (t.ver.toNat : Int), .sq 35 (t.ins.map inT), .sq 2 (t.outs.map outT), .int .u32 (t.lock.toNat : Int)])), .bx (.t (.int .i64 0)), .bx (.t (.ba 32 N.1)), .sq 37 (x.1.2.map coinT)]⟩) (fun x => t.outs.length - x.1.1) ⟨⟨0, l⟩, Nat.zero_le _, hlen, hlow, hU⟩ (Wt trivial [3, 4, 5, 8, 11, 36, 37] [0, 1, 2, 3, 4, 5, 6]) ?_
 rintro ⟨⟨i, L⟩, hi, hL, hLl, hT⟩
 dsimp only at hi hL hLl hT ⊢
 by_cases hlt : i < t.outs.length
 · have hlt2 : (i : Int) < (t.outs.length : Int) := by omega
   obtain ⟨z, hz⟩ : ∃ z : Nat, z = t.outs.length - 1 - i := ⟨_, rfl⟩
   have hw1 : IntKind.i64.wrap ((i : Int) + 1) = ((i + 1 : Nat) : Int) := by rw [wrap_i64 (by omega) (by omega)]; omega
   have hw2 : IntKind.i64.wrap ((t.outs.length : Int) - 1) = (t.outs.length : Int) - 1 := by rw [wrap_i64 (by omega) (by omega)]
   have hw3 : IntKind.i64.wrap ((t.outs.length : Int) - 1 - (i : Int)) = (z : Int) := by rw [wrap_i64 (by omega) (by omega)]; omega
   have hw4 : IntKind.u32.wrap (z : Int) = ((UInt32.ofNat z).toNat : Int) := by
     rw [wrap_u32 (by omega) (by omega), UInt32.toNat_ofNat', Nat.mod_eq_of_lt (by omega)]
   rw [show t.outs.length - i = z + 1 by omega, unmV] at hT
   have hsp := spend_vc L ⟨N, UInt32.ofNat z⟩ (by omega) hLl
   obtain ⟨s1, s2, s3⟩ := spdV_ok hLl ⟨N, UInt32.ofNat z⟩
   generalize UInt32.ofNat z = uz at *
   generalize spdV L ⟨N, uz⟩ = S at *
   obtain ⟨L', cc, e⟩ := S
   dsimp only at hT hsp s1 s2 s3
   simp only [vwN] at hsp
   rw [coinT_st] at hsp
   by_cases he : e = 0
   · subst he
     rw [if_neg (by simp)] at hT
     repeat refine St (And.intro hlt <| And.intro hlt2 <| And.intro hmo <| And.intro hw1 <| And.intro hw2 <| And.intro hw3 <| And.intro hw4 <| And.intro hsp <| hd0) ct41 ?_
     exact ⟨⟨⟨i + 1, L'⟩, by show i + 1 ≤ t.outs.length; omega, by show L'.length ≤ 400000; omega, s1, by dsimp only; rw [show t.outs.length - (i + 1) = z by omega]; exact hT⟩, (Wt trivial [3, 4, 5, 8, 11, 36, 37] [0, 1, 2, 3, 4, 5, 7]), by simp only; omega⟩
   · rw [if_pos he] at hT
     have he2 : (e != 0) = true := by simpa using he
     subst hT
     rw [if_pos he] at hR
     subst hR
     dsimp only
     repeat refine St (And.intro hlt <| And.intro hlt2 <| And.intro hmo <| And.intro hw1 <| And.intro hw2 <| And.intro hw3 <| And.intro hw4 <| And.intro hsp <| he2) ct41 ?_
     refine AWP.ret (ret_early (y := .skip) E_ok (rs := [.cell 8 27]) rfl ?_)
     exact Fin @vwN.eq_def [] [0, 1, 7]
 obtain rfl : i = t.outs.length := by omega
 have hlt2 : ¬ (t.outs.length : Int) < (t.outs.length : Int) := by omega
 rw [Nat.sub_self, unmV] at hT
 subst hT
 rw [if_neg (by simp)] at hR
 dsimp only at hR
 repeat refine St hlt2 ct41 ?_
 show AWM _ _ _ _ _ _
 refine AWM.seq2 ?_
 refine St hbw ct41 ?_
 show seqZ _ _ _ _ _ _ _ _
 intro c hc m0 w0 a hi0 hs0
 obtain ⟨m1, hi1, hs1⟩ := (show Weak 2 69 _ ⟨[(60, .clo 74 [.ptr 4 0 []]), (4, .ptr 2 0 []), (8, .ptr 3 0 [])], [.bx (.st [.own 5]), .no, .bx (.ptr 0 0 []), .bx (.t (.int .i64 0)), .bx (.t (.sq 37 (sp.map coinT))), .sq 37 ((lsV L sp 0).map coinT)]⟩ from (Wt (And.intro @lsV.eq_1 <| @lsV.eq_2) [60, 4, 8] [0, 1, 2, 4, 7, 6])) c hc m0 w0 a hi0 hs0
 clear hi0 hs0 hlt2 hi hbw hnm hck hmo hin hef
 refine rev_tail (N := 69) (kp := 2) (k := 5) (j := 4) (rs := [.cell 8 27]) rfl sp (by omega)
   (Hs := fun i => [.bx (.st [.own 5]), .no, .bx (.ptr 0 0 []), .bx (.t (.int .i64 0)), .bx (.t (.sq 37 (sp.map coinT))), .sq 37 ((lsV L sp i).map coinT)])
   (Hx := [.bx (.st [.own 5]), .no, .bx (.ptr 0 0 []), .bx (.t (.int .i64 R.2)), .bx (.t (.sq 37 (sp.map coinT))), .sq 37 (R.1.map coinT)])
   (Gi := fun i => lowL (lsV L sp i) = true ∧ (lsV L sp i).length ≤ 400000 + i ∧ addsV (lsV L sp i) (sp.reverse.drop i) = R)
   (sL := [(4, .ptr 2 0 []), (8, .ptr 3 0 [])])
   (S1 := fun i => ⟨[(4, .ptr 2 0 []), (8, .ptr 3 0 []), (17, .ptr 6 0 [])], [.bx (.st [.own 5]), .no, .bx (.ptr 0 0 []), .bx (.t (.int .i64 0)), .bx (.t (.sq 37 (sp.map coinT))), .sq 37 ((lsV L sp i).map coinT), .bx (.t (coinT (sp.getD (sp.length - 1 - i) dCoin)))]⟩)
   (by decide) (by decide) (by decide) (by decide) (by decide) rfl (fun i => by simp) (fun i => rfl) ?_ ⟨hLl, by show L.length ≤ 400000 + 0; omega, hR⟩ ?_ (fun i => by simp) ?_ ?_ ?_ hc hi1 hs1 rfl
 · intro i
   simp only [lk]
   split
   · show 2 < 5; decide
   · split
     · show 3 < 5; decide
     · trivial
 · intro lr i hlt hG
   simp only [coinT_st]
   generalize sp.getD (sp.length - 1 - i) dCoin = cc
   exact AWF.greg X_ok ct41.cl [0, 1, 2, 3, 4, 5, 8, 9, 10, 11, 12, 13, 15, 17, 18, 31, 36, 37, 38, 56, 60, 67] rfl (Ev trivial) ⟨rfl, (Wt trivial [4, 8, 17] [0, 1, 2, 3, 4, 5, 6])⟩
 · intro lr i hlt hG
   obtain ⟨g1, g2, g3⟩ := hG
   have hlc : lowC (sp.getD (sp.length - 1 - i) dCoin) = true := lowL_get hlows (by omega)
   have hls : lsV L sp (i + 1) = (addV (lsV L sp i) (sp.getD (sp.length - 1 - i) dCoin)).1 := rfl
   rw [rev_drop sp i hlt, addsV] at g3
   have had := add_c (lsV L sp i) (sp.getD (sp.length - 1 - i) dCoin) (by omega) hlc
   obtain ⟨a1, a2⟩ := addV_ok g1 hlc
   rw [hls]
   simp only [coinT_st]
   generalize sp.getD (sp.length - 1 - i) dCoin = cc at *
   generalize lsV L sp i = Li at *
   generalize addV Li cc = A at *
   obtain ⟨L', e⟩ := A
   dsimp only at g3 had a1 a2 ⊢
   simp only [vwN] at had
   refine AWF.block (AWF.seq (AWF.greg X_ok ct41.cl [0, 1, 2, 3, 4, 5, 8, 9, 10, 11, 12, 13, 15, 17, 18, 31, 36, 37, 38, 56, 60, 67] rfl (Ev had) ?_))
   show AWF _ _ _ _ _ _ _ _
   by_cases he : e = 0
   · subst he
     rw [if_neg (by simp)] at g3
     refine AWF.seq (AWF.greg X_ok ct41.cl [0, 1, 2, 3, 4, 5, 8, 9, 10, 11, 12, 13, 15, 17, 18, 31, 36, 37, 38, 56, 60, 67] rfl (Ev hd0) ?_)
     show AWF _ _ _ _ _ _ _ _
     refine AWF.condF (b := false) rfl rfl (AWF.skip (.inl ⟨rfl, ⟨a1, by omega, g3⟩, ?_⟩))
     exact (Wt trivial [] [0, 1, 2, 3, 4, 7])
   · rw [if_pos he] at g3
     have he2 : (e != 0) = true := by simpa using he
     subst g3
     refine AWF.seq (AWF.greg X_ok ct41.cl [0, 1, 2, 3, 4, 5, 8, 9, 10, 11, 12, 13, 15, 17, 18, 31, 36, 37, 38, 56, 60, 67] rfl (Ev he2) ?_)
     show AWF _ _ _ _ _ _ _ _
     refine AWF.condT (b := true) rfl rfl (AWF.seq (AWF.greg X_ok ct41.cl [0, 1, 2, 3, 4, 5, 8, 9, 10, 11, 12, 13, 15, 17, 18, 31, 36, 37, 38, 56, 60, 67] rfl (Ev trivial) ?_))
     show AWF _ _ _ _ _ _ _ _
     refine AWF.ret (.inr ⟨rfl, ?_⟩)
     exact (Wt trivial [] [0, 1, 2, 3, 4, 7])
 · intro D hG
   obtain ⟨g1, g2, g3⟩ := hG
   rw [List.drop_of_length_le (by rw [List.length_reverse]; exact Nat.le_refl _), addsV] at g3
   subst g3
   refine AWF.seq (AWF.greg X_ok ct41.cl [0, 1, 2, 3, 4, 5, 8, 9, 10, 11, 12, 13, 15, 17, 18, 31, 36, 37, 38, 56, 60, 67] rfl (Ev trivial) ?_)
   show AWF _ _ _ _ _ _ _ _
   refine AWF.ret ⟨rfl, ?_⟩
   exact Fin @vwN.eq_def [] [0, 1, 5]
 · exact Fin @vwN.eq_def [] [0, 1, 5]
theorem rev_c (l : List TCoin) (t : TTx) (first : Bool) (sp : List TCoin) (h : l.length ≤ 400000) (h2 : lowL l = true) (h3 : sp.length ≤ 10000) (h4 : lowL sp = true) (h5 : t.ins.length ≤ 10000) :
   G41 [.bx (.st [.own 1]), .sq 37 (l.map coinT)] [.ptr 0 0 [], .t (txT t), .t (.bool first), .t (.sq 37 (sp.map coinT))] = some (vwN (revV l t (nmH t) first sp).1, .t (.int .i64 (revV l t (nmH t) first sp).2)) := by
 show G41 (vwH l) [.ptr 0 0 [], .t (txT t), .t (.bool first), .t (coinsT sp)] = _
 simp only [G41, inv_of vwH_inj, inv_of txT_inj, inv_of coinsT_inj]
 exact if_pos ⟨h, h2, h3, h4, h5⟩
end Go.Fw

end

section
namespace Go.Fw
open Go Go.Proofs
structure RvX where
 l : List TCoin
 t : TTx
 first : Bool
 sp : List TCoin
noncomputable def rvH (x : RvX) : List Blk := [.bx (.st [.own 1]), .sq 37 (x.l.map coinT), .bx (.t (txT x.t)), .bx (.t (.bool x.first)), .bx (.t (coinsT x.sp))]
theorem rvH_inj (a b : RvX) (h : rvH a = rvH b) : a = b := by
 obtain ⟨l1, t1, f1, s1⟩ := a
 obtain ⟨l2, t2, f2, s2⟩ := b
 simp only [rvH, List.cons.injEq, Blk.sq.injEq, Blk.bx.injEq, AV.t.injEq, T.bool.injEq, true_and, and_true] at h
 obtain ⟨g1, g2, g3, g4⟩ := h
 rw [coins_inj _ _ g1, txT_inj _ _ g2, g3, coinsT_inj _ _ g4]
noncomputable def rvN (x : RvX) (l : List TCoin) : List Blk := [.bx (.st [.own 5]), .no, .bx (.t (txT x.t)), .bx (.t (.bool x.first)), .bx (.t (coinsT x.sp)), .sq 37 (l.map coinT)]
noncomputable def rv1 (x : RvX) : List TCoin × Int := revV x.l x.t (nmH x.t) x.first x.sp
def RvX.ok (x : RvX) : Prop := x.l.length ≤ 400000 ∧ lowL x.l = true ∧ x.sp.length ≤ 10000 ∧ lowL x.sp = true ∧ x.t.ins.length ≤ 10000
noncomputable def G40 : GFun
 | HB, [.ptr 0 0 [], .ptr 2 0 [], .ptr 3 0 [], .ptr 4 0 []] => match inv rvH HB with
   | some x => @ite _ ((x.ok)) (Classical.propDecidable _) ((some (rvN x (rv1 x).1, .t (.int .i64 (rv1 x).2)))) none
   | none => none
 | _, _ => none
theorem ct40 : CT [(41, ⟨[true, false, false, false], G41⟩)] [0, 1, 2, 3, 5] [] := ⟨(.cons g41 (.nil _))⟩
set_option maxHeartbeats 2000000 in
theorem g40 : GCon Tryz.prog 40 G40 := by
 refine gconc E_ok (rs := [.tmp 5 27]) Tryz.func40 rfl Tryz.ntmps40 (by kernel_rfl) rfl (by decide) G40 (np := 4) ?_ ?_
 · intro HB xs h; unfold G40; split <;> first | rfl | (simp at h; done)
 intro HB xs H r hG hwf hex
 unfold G40 at hG
 split at hG <;> try (cases hG; done)
 split at hG <;> try (cases hG; done)
 rename_i x hx
 split at hG
 case isFalse => cases hG
 rename_i hcc
 cases hG
 obtain ⟨h1, h2, h3, h4, h5⟩ := hcc
 obtain rfl := inv_inv hx
 have h := rev_c x.l x.t x.first x.sp h1 h2 h3 h4 h5
 obtain ⟨l, t, first, sp⟩ := x
 dsimp only at h
 simp only [rvH, rvN, rv1, coinsT]
 generalize revV l t (nmH t) first sp = R at *
 obtain ⟨L, e⟩ := R
 dsimp only at h ⊢
 rw [txT_st] at h ⊢
 simp only [vwN] at h
 repeat refine St (And.intro (And.intro @gentry.eq_1 <| @gentry.eq_2) <| h) ct40 ?_
 exact AWP.ret (Fin trivial [] [0, 1, 2, 3, 4, 5])
theorem rv1_c (x : RvX) (h : x.ok) : G40 (rvH x) [.ptr 0 0 [], .ptr 2 0 [], .ptr 3 0 [], .ptr 4 0 []] = some (rvN x (rv1 x).1, .t (.int .i64 (rv1 x).2)) := by
 simp only [G40, inv_of rvH_inj]
 exact if_pos h
noncomputable def G34R : GFun
 | HB, [.ptr 0 0 [], .clo 40 [.ptr 2 0 [], .ptr 3 0 [], .ptr 4 0 []]] => match inv rvH HB with
   | some x => @ite _ ((x.ok)) (Classical.propDecidable _) ((some (rvN x (if (rv1 x).2 = 0 then (rv1 x).1 else x.l), .t (.int .i64 (rv1 x).2)))) none
   | none => none
 | _, _ => none
theorem ct34R : CT [(40, ⟨[true, true, true, true], G40⟩), (54, ⟨[true], G54⟩)] [0, 1, 4, 5, 6, 18] [] := ⟨(.cons g40 (.cons g54 (.nil _)))⟩
set_option maxHeartbeats 4000000 in
theorem g34R : GCon Tryz.prog 34 G34R := by
 refine gconc E_ok (rs := [.tmp 4 27]) Tryz.func34 rfl Tryz.ntmps34 (by kernel_rfl) rfl (by decide) G34R (np := 2) ?_ ?_
 · intro HB xs h; unfold G34R; split <;> first | rfl | (simp at h; done)
 intro HB xs H r hG hwf hex
 unfold G34R at hG
 split at hG <;> try (cases hG; done)
 
 split at hG <;> try (cases hG; done)
 rename_i x hx
 split at hG
 case isFalse => cases hG
 rename_i hcc
 cases hG
 obtain rfl := inv_inv hx
 have h := rv1_c x hcc
 have hcl := clone_vc x.l (by have := hcc.1; omega)
 generalize rv1 x = R at *
 obtain ⟨l, t, first, sp⟩ := x
 obtain ⟨L, e⟩ := R
 dsimp only at h hcl ⊢
 simp only [rvH, rvN, coinsT] at h ⊢
 rw [txT_st] at h ⊢
 by_cases he : e = 0
 · subst he
   rw [if_pos rfl]
   have he2 : ((0 : Int) == 0) = true := rfl
   repeat refine St (And.intro (And.intro @gentry.eq_1 <| @gentry.eq_2) <| And.intro hcl <| And.intro h <| he2) ct34R ?_
   refine AWP.weak (Weak.drop 1 _ rfl rfl) ?_
   exact AWP.ret (Fin trivial [] [0, 1, 2, 3, 4, 7])
 · rw [if_neg he]
   have he2 : (e == 0) = false := by simpa using he
   repeat refine St (And.intro (And.intro @gentry.eq_1 <| @gentry.eq_2) <| And.intro hcl <| And.intro h <| he2) ct34R ?_
   refine AWP.weak (Weak.moveBx (v' := _) 0 1 [0] 0 _ rfl rfl rfl (by decide) (by simp only [W, eqq, ↓reduceIte, Nat.reduceEqDiff, Nat.reduceLT, Nat.reduceLeDiff, Nat.reduceAdd, Nat.reduceMul, Nat.reduceSub, Nat.reduceBEq, Int.reduceLE, Int.reduceLT, Int.reduceNeg, Int.reduceToNat, Int.reduceEq, Int.reduceBEq, Int.reduceBNe, Nat.reduceBNe, bne_self_eq_false, reduceCtorEq, gt_iff_lt, ge_iff_le]) (by simp only [W, eqq, ↓reduceIte, Nat.reduceEqDiff, Nat.reduceLT, Nat.reduceLeDiff, Nat.reduceAdd, Nat.reduceMul, Nat.reduceSub, Nat.reduceBEq, Int.reduceLE, Int.reduceLT, Int.reduceNeg, Int.reduceToNat, Int.reduceEq, Int.reduceBEq, Int.reduceBNe, Nat.reduceBNe, bne_self_eq_false, reduceCtorEq, gt_iff_lt, ge_iff_le]) (by simp only [W, eqq, ↓reduceIte, Nat.reduceEqDiff, Nat.reduceLT, Nat.reduceLeDiff, Nat.reduceAdd, Nat.reduceMul, Nat.reduceSub, Nat.reduceBEq, Int.reduceLE, Int.reduceLT, Int.reduceNeg, Int.reduceToNat, Int.reduceEq, Int.reduceBEq, Int.reduceBNe, Nat.reduceBNe, bne_self_eq_false, reduceCtorEq, gt_iff_lt, ge_iff_le]; rfl)) ?_
   exact AWP.ret (Fin trivial [] [0, 1, 2, 3, 4, 8])
theorem trialR_c (x : RvX) (h : x.ok) : G34R (rvH x) [.ptr 0 0 [], .clo 40 [.ptr 2 0 [], .ptr 3 0 [], .ptr 4 0 []]] = some (rvN x (if (rv1 x).2 = 0 then (rv1 x).1 else x.l), .t (.int .i64 (rv1 x).2)) := by
 simp only [G34R, inv_of rvH_inj]
 exact if_pos h
noncomputable def revertV (l : List TCoin) (t : TTx) (first : Bool) (sp : List TCoin) : List TCoin × Int :=
 (if (rv1 ⟨l, t, first, sp⟩).2 = 0 then (rv1 ⟨l, t, first, sp⟩).1 else l, (rv1 ⟨l, t, first, sp⟩).2)
noncomputable def G23R : GFun
 | HB, [.ptr 0 0 [], .t x, .t (.bool first), .t y] => match inv vwH HB, inv txT x, inv coinsT y with
   | some l, some t, some sp => @ite _ ((RvX.ok ⟨l, t, first, sp⟩)) (Classical.propDecidable _) ((some (vwN (revertV l t first sp).1, .t (.int .i64 (revertV l t first sp).2)))) none
   | _, _, _ => none
 | _, _ => none
theorem ct23R : CT [(34, ⟨[true, true], G34R⟩)] [0, 1, 2, 3, 5, 6, 7, 8, 10] [] := ⟨(.cons g34R (.nil _))⟩
set_option maxHeartbeats 4000000 in
theorem g23R : GCon Tryz.prog 23 G23R := by
 refine gconc E_ok (rs := [.tmp 8 27]) Tryz.func23 rfl Tryz.ntmps23 (by kernel_rfl) rfl (by decide) G23R (np := 4) ?_ ?_
 · intro HB xs h; unfold G23R; split <;> first | rfl | (simp at h; done)
 intro HB xs H r hG hwf hex
 unfold G23R at hG
 split at hG <;> try (cases hG; done)
 
 rename_i x first y
 split at hG <;> try (cases hG; done)
 rename_i l t sp hl htx hsp
 split at hG
 case isFalse => cases hG
 rename_i hcc
 cases hG
 obtain rfl := inv_inv hl
 obtain rfl := inv_inv htx
 obtain rfl := inv_inv hsp
 have h := trialR_c ⟨l, t, first, sp⟩ hcc
 unfold revertV
 generalize rv1 ⟨l, t, first, sp⟩ = R at *
 obtain ⟨L, e⟩ := R
 dsimp only at h ⊢
 generalize (if e = 0 then L else l) = Z at *
 simp only [vwH, rvH, rvN, coinsT] at h ⊢
 rw [txT_st] at h ⊢
 repeat refine St (And.intro (And.intro @gentry.eq_1 <| @gentry.eq_2) <| h) ct23R ?_
 exact AWP.ret (Fin @vwN.eq_def [] [0, 1, 5])
theorem revert_c (l : List TCoin) (t : TTx) (first : Bool) (sp : List TCoin) (h : RvX.ok ⟨l, t, first, sp⟩) : G23R [.bx (.st [.own 1]), .sq 37 (l.map coinT)] [.ptr 0 0 [], .t (txT t), .t (.bool first), .t (.sq 37 (sp.map coinT))] = some (vwN (revertV l t first sp).1, .t (.int .i64 (revertV l t first sp).2)) := by
 show G23R (vwH l) [.ptr 0 0 [], .t (txT t), .t (.bool first), .t (coinsT sp)] = _
 simp only [G23R, inv_of vwH_inj, inv_of txT_inj, inv_of coinsT_inj]
 exact if_pos h
end Go.Fw

end

section
namespace Go.Fw
open Go Go.Proofs
theorem rvt_chk {l : List TCoin} {t : TTx} {first : Bool} {sp : List TCoin} (h : chkE t = 4) : revertV l t first sp = (l, 1) := by
 have e : rv1 ⟨l, t, first, sp⟩ = (l, 1) := by
   show revV l t (nmH t) first sp = _
   unfold revV
   rw [if_pos (by rw [h]; decide)]
 unfold revertV
 rw [e, if_neg (by simp)]
theorem rvt_eq {l : List TCoin} {t : TTx} {first : Bool} {sp : List TCoin} (h : eqRefs sp (insR t first) = false) : revertV l t first sp = (l, 1) := by
 have e : rv1 ⟨l, t, first, sp⟩ = (l, 1) := by
   show revV l t (nmH t) first sp = _
   unfold revV
   rw [h]
   split <;> rfl
 unfold revertV
 rw [e, if_neg (by simp)]
theorem rvt_unm {l : List TCoin} {t : TTx} {first : Bool} {sp : List TCoin} (h : chkE t = 0) (h2 : eqRefs sp (insR t first) = true) {U : List TCoin × Int} (hU : unmV (nmH t) t.outs.length l = U) (he : U.2 ≠ 0) : revertV l t first sp = (l, U.2) := by
 have e : rv1 ⟨l, t, first, sp⟩ = U := by
   show revV l t (nmH t) first sp = _
   unfold revV
   rw [if_neg (by rw [h]; simp), h2, if_neg (by simp), hU, if_pos he]
 unfold revertV
 rw [e, if_neg he]
theorem rvt_add {l : List TCoin} {t : TTx} {first : Bool} {sp : List TCoin} (h : chkE t = 0) (h2 : eqRefs sp (insR t first) = true) {L : List TCoin} (hU : unmV (nmH t) t.outs.length l = (L, 0)) {B : List TCoin × Int} (hB : addsV L sp.reverse = B) :
   revertV l t first sp = (if B.2 = 0 then B.1 else l, B.2) := by
 have e : rv1 ⟨l, t, first, sp⟩ = B := by
   show revV l t (nmH t) first sp = _
   unfold revV
   rw [if_neg (by rw [h]; simp), h2, if_neg (by simp), hU, if_neg (by simp)]
   exact hB
 unfold revertV
 rw [e]
noncomputable def F28 : Fun
 | [w, x, .bool first, y] => match inv coinsT w, inv txT x, inv coinsT y with
   | some l, some t, some sp => @ite _ ((l.length ≤ 400000 ∧ Srt l ∧ sp.length ≤ 10000)) (Classical.propDecidable _) ((some ([], .tup [.t (coinsT (revertV l t first sp).1), .t (.int .i64 (revertV l t first sp).2)]))) none
   | _, _, _ => none
 | _ => none
theorem ct28 : CT [(21, ⟨[false, false], treeG F21⟩), (26, ⟨[false, false], treeG F26⟩), (45, ⟨[false], treeG F45⟩), (47, ⟨[false, false], treeG F47⟩), (48, ⟨[false], treeG F48⟩)] [0, 1, 2, 3, 5, 8, 9, 10, 11, 12, 13, 14, 16, 17, 18, 19, 30, 35, 49, 59, 73, 81, 94] [(6, [⟨0, [3], [], []⟩, ⟨0, [10], [], []⟩, ⟨1, [38, 39], [], []⟩, ⟨0, [40], [2], []⟩, ⟨1, [41], [2], []⟩, ⟨0, [5], [], []⟩, ⟨1, [43], [], []⟩, ⟨0, [10], [], []⟩, ⟨1, [44, 45], [6], []⟩, ⟨0, [46], [6, 8], []⟩, ⟨1, [47], [6, 8], []⟩, ⟨0, [42, 48], [2, 4, 6, 8, 10], []⟩])] := ⟨(.cons c21.g (.cons c26.g (.cons c45.g (.cons c47.g (.cons c48.g (.nil _))))))⟩
set_option maxRecDepth 8000 in
set_option maxHeartbeats 8000000 in
theorem c28 : ACon Tryz.prog 28 F28 := by
 refine aconc E_ok (rs := [.tmp 8 22, .tmp 9 27]) Tryz.func28 rfl Tryz.ntmps28 (by kernel_rfl) rfl (by decide) F28 (np := 4) ?_ ?_
 · intro ts h; unfold F28; split <;> first | rfl | (simp at h; done)
 intro ts H r hF hwf
 unfold F28 at hF
 split at hF <;> try (cases hF; done)
 rename_i w x first y
 split at hF <;> try (cases hF; done)
 rename_i l t sp hl htx hsp
 split at hF
 case isFalse => cases hF
 rename_i hcc
 obtain ⟨hlen, hsr, hspl⟩ := hcc
 cases hF
 obtain rfl := inv_inv hl
 obtain rfl := inv_inv htx
 obtain rfl := inv_inv hsp
 have hck := rcheck_c t
 have hnm := rname_tc t
 have hinp := rinputs_c t first
 have hmi : (t.ins.map inT).length = t.ins.length := List.length_map ..
 have hmo : (t.outs.map outT).length = t.outs.length := List.length_map ..
 have hms : (sp.map coinT).length = sp.length := List.length_map ..
 have hin : ∀ i, i < t.ins.length → (t.ins.map inT).getD i default = .st [.st [.ba 32 (t.ins.getD i dIn).prev.1, .int .u32 ((t.ins.getD i dIn).idx.toNat : Int)], .int .u32 ((t.ins.getD i dIn).seq.toNat : Int), .sq 1 ((t.ins.getD i dIn).wit.map .by)] := fun i hi => by simp [hi, inT, refT]
 obtain ⟨R, hR⟩ : ∃ R, revertV l t first sp = R := ⟨_, rfl⟩
 rw [hR]
 have hd0 : ((0 : Int) != 0) = false := rfl
 rw [txT_st] at hck hnm ⊢
 simp only [coinsT]
 rcases chk_two t with ⟨e1, e2, e3⟩ | ⟨e1, e2⟩
 rotate_left
 · rw [e1] at hck
   rw [rvt_chk e1] at hR
   subst hR
   repeat refine St hck ct28 ?_
   exact AWP.ret (Fin trivial [] [])
 rw [e1] at hck
 obtain ⟨c1, c2, c3, _⟩ := countsB_ok e2
 by_cases hne : sp.length = (insR t first).length
 rotate_left
 · have hq : ((sp.length : Int) != ((insR t first).length : Int)) = true := by
     rw [bne_iff_ne]; omega
   rw [rvt_eq (eqRefs_len hne)] at hR
   subst hR
   repeat refine St (And.intro hck <| And.intro hd0 <| And.intro hms <| And.intro hinp <| hq) ct28 ?_
   exact AWP.ret (Fin trivial [] [])
 have hq : ((sp.length : Int) != ((insR t first).length : Int)) = false := by
   rw [bne_eq_false_iff_eq]; omega
 have hIl : ∀ i, i < sp.length → first = false ∧ i < t.ins.length ∧ (insR t first).getD i dRef = ⟨(t.ins.getD i dIn).prev, (t.ins.getD i dIn).idx⟩ := by
   intro i hi
   cases first with
   | true =>
     have h0 : (insR t true).length = 0 := by simp [insR]
     omega
   | false =>
     have hrl : (insR t false).length = t.ins.length := by simp [insR]
     have hlt : i < t.ins.length := by omega
     exact ⟨rfl, hlt, by simp [insR, List.getD_eq_getElem?_getD, hlt]⟩
 obtain ⟨Bq, hBq⟩ : ∃ Bq, eqRefs sp (insR t first) = Bq := ⟨_, rfl⟩
 have rE := @rvt_eq l t first sp
 have rU := @rvt_unm l t first sp e1
 have rA := @rvt_add l t first sp e1
 rw [hR] at rE rU rA
 rw [hBq] at rE rU rA
 have hnl : namO t = (nmH t).1 := rfl
 rw [hnl] at hnm
 generalize hN : nmH t = N at *
 repeat refine St (And.intro hck <| And.intro hd0 <| And.intro hms <| And.intro hinp <| hq) ct28 ?_
 refine AWP.loop (G := { i : Nat // i ≤ sp.length ∧ eqRefs (sp.drop i) ((insR t first).drop i) = Bq }) (fun i => ⟨[(0, .t (.sq 37 (l.map coinT))), (3, .t (.sq 37 (sp.map coinT))), (5, .ptr 0 0 []), (10, .t (.int .i64 (i.1 : Int)))], [.bx (.t (.st [.int .u32 (t.ver.toNat : Int), .sq 35 (t.ins.map inT), .sq 2 (t.outs.map outT), .int .u32 (t.lock.toNat : Int)]))]⟩) (fun i => sp.length - i.1) ⟨0, Nat.zero_le _, hBq⟩ (Wt trivial [0, 3, 5, 10] [0]) ?_
 rintro ⟨i, hi, hT⟩
 dsimp only
 by_cases hlt : i < sp.length
 · have hlt2 : (i : Int) < (sp.length : Int) := by omega
   have hw1 : IntKind.i64.wrap ((i : Int) + 1) = ((i + 1 : Nat) : Int) := by rw [wrap_i64 (by omega) (by omega)]; omega
   obtain ⟨hf, hli, hgr⟩ := hIl i hlt
   have hli2 : (i : Int) < (t.ins.length : Int) := by omega
   have hg := coin_getD sp i hlt
   have hg2 := hin i hli
   have hd1 : sp.drop i = sp.getD i dCoin :: sp.drop (i + 1) := by
     rw [List.drop_eq_getElem_cons hlt]
     simp [List.getD_eq_getElem?_getD, hlt]
   have hd2 : (insR t first).drop i = (insR t first).getD i dRef :: (insR t first).drop (i + 1) := by
     have hl' : i < (insR t first).length := by omega
     rw [List.drop_eq_getElem_cons hl']
     simp [List.getD_eq_getElem?_getD, hl']
   rw [hd1, hd2, hgr, eqRefs] at hT
   rw [coinT_st] at hg
   clear hd1 hd2 hgr hIl hin
   generalize sp.getD i dCoin = c at *
   generalize t.ins.getD i dIn = u at *
   have hre : refB c.r ⟨u.prev, u.idx⟩ = (c.r.h.1 == u.prev.1 && ((c.r.i.toNat : Int) == (u.idx.toNat : Int))) := rfl
   cases hs : refB c.r ⟨u.prev, u.idx⟩ with
   | false =>
     rw [hs, Bool.false_and] at hT
     rw [hs] at hre
     have hre' := hre.symm
     have hR2 := rE hT.symm
     subst hR2
     dsimp only
     repeat refine St (And.intro hlt <| And.intro hlt2 <| And.intro hli <| And.intro hli2 <| And.intro hms <| And.intro hmi <| And.intro hw1 <| And.intro hg <| And.intro hg2 <| hre') ct28 ?_
     exact AWP.ret (Fin trivial [] [])
   | true =>
     rw [hs, Bool.true_and] at hT
     rw [hs] at hre
     have hre' := hre.symm
     repeat refine St (And.intro hlt <| And.intro hlt2 <| And.intro hli <| And.intro hli2 <| And.intro hms <| And.intro hmi <| And.intro hw1 <| And.intro hg <| And.intro hg2 <| hre') ct28 ?_
     exact ⟨⟨i + 1, by omega, hT⟩, (Wt trivial [0, 3, 5, 10] [0]), by simp only; omega⟩
 obtain rfl : i = sp.length := by omega
 have hlt2 : ¬ (sp.length : Int) < (sp.length : Int) := by omega
 rw [List.drop_length, List.drop_of_length_le (show (insR t first).length ≤ sp.length by omega), eqRefs] at hT
 subst hT
 obtain ⟨U, hU⟩ : ∃ U, unmV N t.outs.length l = U := ⟨_, rfl⟩
 have rU2 := rU rfl hU
 have hw0 : IntKind.i64.wrap ((t.outs.length : Int) - 1) = (t.outs.length : Int) - 1 := by rw [wrap_i64 (by omega) (by omega)]
 repeat refine St (And.intro hlt2 <| And.intro hms <| And.intro hnm <| And.intro hmo <| hw0) ct28 ?_
 refine AWP.loop (G := { x : Nat × List TCoin // x.1 ≤ t.outs.length ∧ x.2.length ≤ 400000 ∧ Srt x.2 ∧ unmV N x.1 x.2 = U }) (fun x => ⟨[(0, .t (.sq 37 (l.map coinT))), (3, .t (.sq 37 (sp.map coinT))), (11, .t (.sq 37 (x.1.2.map coinT))), (12, .ptr 0 0 []), (13, .t (.int .i64 ((x.1.1 : Int) - 1)))], [.bx (.t (.ba 32 N.1))]⟩) (fun x => x.1.1) ⟨⟨t.outs.length, l⟩, Nat.le_refl _, hlen, hsr, hU⟩ (Wt trivial [0, 3, 11, 12, 13] [1]) ?_
 rintro ⟨⟨k, L⟩, hk, hL, hLs, hT⟩
 dsimp only at hk hL hLs hT ⊢
 cases k with
 | succ z =>
   have hzi : ((z + 1 : Nat) : Int) - 1 = (z : Int) := by omega
   have hge : ((0 : Int) ≤ (z : Int)) = True := eq_true (by omega)
   have hw1 : IntKind.i64.wrap ((z : Int) - 1) = (z : Int) - 1 := by rw [wrap_i64 (by omega) (by omega)]
   have hw4 : IntKind.u32.wrap (z : Int) = ((UInt32.ofNat z).toNat : Int) := by
     rw [wrap_u32 (by omega) (by omega), UInt32.toNat_ofNat', Nat.mod_eq_of_lt (by omega)]
   rw [unmV] at hT
   have hsp := rspend_c L ⟨N, UInt32.ofNat z⟩ (by omega) hLs
   have s1 := spdV_srt hLs ⟨N, UInt32.ofNat z⟩
   have s2 := spdV_len L ⟨N, UInt32.ofNat z⟩
   rw [hzi]
   generalize UInt32.ofNat z = uz at *
   generalize spdV L ⟨N, uz⟩ = S at *
   obtain ⟨L', cc, e⟩ := S
   dsimp only at hT hsp s1 s2
   rw [coinT_st] at hsp
   by_cases he : e = 0
   · subst he
     rw [if_neg (by simp)] at hT
     repeat refine St (And.intro hge <| And.intro hw1 <| And.intro hw4 <| And.intro hsp <| hd0) ct28 ?_
     exact ⟨⟨⟨z, L'⟩, by show z ≤ t.outs.length; omega, by show L'.length ≤ 400000; omega, s1, hT⟩, (Wt trivial [0, 3, 11, 12, 13] [0]), by simp only; omega⟩
   · rw [if_pos he] at hT
     have he2 : (e != 0) = true := by simpa using he
     subst hT
     have hR2 := rU2 he
     subst hR2
     dsimp only
     repeat refine St (And.intro hge <| And.intro hw1 <| And.intro hw4 <| And.intro hsp <| he2) ct28 ?_
     exact AWP.ret (Fin trivial [] [])
 | zero =>
 have hge : ((0 : Int) ≤ ((0 : Nat) : Int) - 1) = False := eq_false (by omega)
 rw [unmV] at hT
 obtain ⟨B, hB⟩ : ∃ B, addsV L sp.reverse = B := ⟨_, rfl⟩
 have rA2 := rA rfl (hU.trans hT.symm) hB
 have hw0 : IntKind.i64.wrap ((sp.length : Int) - 1) = (sp.length : Int) - 1 := by rw [wrap_i64 (by omega) (by omega)]
 repeat refine St (And.intro hge <| And.intro hms <| hw0) ct28 ?_
 refine AWP.loop (G := { x : Nat × List TCoin // x.1 ≤ sp.length ∧ x.2.length ≤ 400000 + x.1 ∧ Srt x.2 ∧ addsV x.2 (sp.reverse.drop x.1) = B }) (fun x => ⟨[(0, .t (.sq 37 (l.map coinT))), (3, .t (.sq 37 (sp.map coinT))), (11, .t (.sq 37 (x.1.2.map coinT))), (17, .t (.int .i64 ((sp.length : Int) - 1 - (x.1.1 : Int))))], []⟩) (fun x => sp.length - x.1.1) ⟨⟨0, L⟩, Nat.zero_le _, by show L.length ≤ 400000 + 0; omega, hLs, hB⟩ ((Wt (And.intro @Int.sub_zero <| @Int.ofNat_zero) [0, 3, 11, 17] [])) ?_
 rintro ⟨⟨i, L2⟩, hi, hL2, hL2s, hT2⟩
 dsimp only at hi hL2 hL2s hT2 ⊢
 by_cases hlt : i < sp.length
 · obtain ⟨z, hz⟩ : ∃ z : Nat, z = sp.length - 1 - i := ⟨_, rfl⟩
   have hzi : (sp.length : Int) - 1 - (i : Int) = (z : Int) := by omega
   have hzl : z < sp.length := by omega
   have hzl2 : (z : Int) < (sp.length : Int) := by omega
   have hge : ((0 : Int) ≤ (z : Int)) = True := eq_true (by omega)
   have hw1 : IntKind.i64.wrap ((z : Int) - 1) = (sp.length : Int) - 1 - ((i + 1 : Nat) : Int) := by rw [wrap_i64 (by omega) (by omega)]; omega
   have hg := coin_getD sp z hzl
   rw [rev_drop sp i hlt, ← hz, addsV] at hT2
   have had := radd_c L2 (sp.getD z dCoin) (by omega) hL2s
   have a1 := addV_srt hL2s (sp.getD z dCoin)
   have a2 := addV_len L2 (sp.getD z dCoin)
   rw [hzi]
   rw [coinT_st] at hg had
   generalize sp.getD z dCoin = c at *
   generalize addV L2 c = Z at *
   obtain ⟨L', e⟩ := Z
   dsimp only at hT2 had a1 a2
   by_cases he : e = 0
   · subst he
     rw [if_neg (by simp)] at hT2
     repeat refine St (And.intro hge <| And.intro hzl <| And.intro hzl2 <| And.intro hms <| And.intro hw1 <| And.intro hg <| And.intro had <| hd0) ct28 ?_
     exact ⟨⟨⟨i + 1, L'⟩, by show i + 1 ≤ sp.length; omega, by show L'.length ≤ 400000 + (i + 1); omega, a1, hT2⟩, (Wt trivial [0, 3, 11, 17] []), by simp only; omega⟩
   · rw [if_pos he] at hT2
     have he2 : (e != 0) = true := by simpa using he
     subst hT2
     rw [if_neg (show ¬ (L', e).2 = 0 from he)] at rA2
     subst rA2
     dsimp only
     repeat refine St (And.intro hge <| And.intro hzl <| And.intro hzl2 <| And.intro hms <| And.intro hw1 <| And.intro hg <| And.intro had <| he2) ct28 ?_
     exact AWP.ret (Fin trivial [] [])
 obtain rfl : i = sp.length := by omega
 have hge2 : ((0 : Int) ≤ (sp.length : Int) - 1 - (sp.length : Int)) = False := eq_false (by omega)
 rw [List.drop_of_length_le (by rw [List.length_reverse]; exact Nat.le_refl _), addsV] at hT2
 subst hT2
 rw [if_pos rfl] at rA2
 subst rA2
 dsimp only
 repeat refine St hge2 ct28 ?_
 exact AWP.ret (Fin trivial [] [])
theorem rrevert_c (l : List TCoin) (t : TTx) (first : Bool) (sp : List TCoin) (h : l.length ≤ 400000) (h2 : Srt l) (h3 : sp.length ≤ 10000) : F28 [.sq 37 (l.map coinT), .st [.int .u32 (t.ver.toNat : Int), .sq 35 (t.ins.map inT), .sq 2 (t.outs.map outT), .int .u32 (t.lock.toNat : Int)], .bool first, .sq 37 (sp.map coinT)] = some ([], .tup [.t (.sq 37 ((revertV l t first sp).1.map coinT)), .t (.int .i64 (revertV l t first sp).2)]) := by
 show F28 [coinsT l, txT t, .bool first, coinsT sp] = some ([], .tup [.t (coinsT (revertV l t first sp).1), .t (.int .i64 (revertV l t first sp).2)])
 simp only [F28, inv_of coinsT_inj, inv_of txT_inj]
 exact if_pos ⟨h, h2, h3⟩
end Go.Fw

end

section
namespace Go.Fw
open Go Go.Proofs
theorem lowL_cut {sp : List TCoin} (h : lowL sp = true) (i j : Nat) : lowL ((sp.take i).drop j) = true := lowL_drop (lowL_take h i) j
structure UdX where
 l : List TCoin
 sp : List TCoin
 ts : List TTx
noncomputable def udH (x : UdX) : List Blk := [.bx (.st [.own 1]), .sq 37 (x.l.map coinT), .bx (.t (coinsT x.sp)), .bx (.t (txsT x.ts)), .bx (.t (.fn 41))]
theorem udH_inj (a b : UdX) (h : udH a = udH b) : a = b := by
 obtain ⟨l1, t1, f1⟩ := a
 obtain ⟨l2, t2, f2⟩ := b
 simp only [udH, List.cons.injEq, Blk.sq.injEq, Blk.bx.injEq, AV.t.injEq, true_and, and_true] at h
 obtain ⟨g1, g2, g3⟩ := h
 rw [coins_inj _ _ g1, coinsT_inj _ _ g2, txsT_inj _ _ g3]
noncomputable def udN (x : UdX) (l : List TCoin) : List Blk := [.bx (.st [.own 5]), .no, .bx (.t (coinsT x.sp)), .bx (.t (txsT x.ts)), .bx (.t (.fn 41)), .sq 37 (l.map coinT)]
noncomputable def ud1 (x : UdX) : List TCoin × Int := undV nmH x.ts x.sp x.ts.length x.l
def fewIn (t : TTx) : Bool := decide (t.ins.length ≤ 10000)
def UdX.ok (x : UdX) : Prop := x.l.length ≤ 300000 ∧ lowL x.l = true ∧ x.sp.length ≤ 10000 ∧ lowL x.sp = true ∧ x.ts.length ≤ 10000 ∧ x.ts.all fewIn = true
def UdX.fit (x : UdX) : Prop := cumN x.ts x.ts.length = x.sp.length
theorem few_get {ts : List TTx} (h : ts.all fewIn = true) {i : Nat} (hi : i < ts.length) : (ts.getD i dTx).ins.length ≤ 10000 := by
 have := List.all_eq_true.1 h (ts.getD i dTx) (by simp [List.getD_eq_getElem?_getD, hi])
 exact of_decide_eq_true this
theorem insR_len (t : TTx) (f : Bool) : (insR t f).length ≤ t.ins.length := by unfold insR; split <;> simp
noncomputable def G44 : GFun
 | HB, [.ptr 0 0 [], .ptr 2 0 [], .ptr 3 0 [], .ptr 4 0 []] => match inv udH HB with
   | some x => @ite _ ((x.ok ∧ x.fit)) (Classical.propDecidable _) ((some (udN x (ud1 x).1, .t (.int .i64 (ud1 x).2)))) none
   | none => none
 | _, _ => none
theorem ct44 : CT [(41, ⟨[true, false, false, false], G41⟩), (43, ⟨[false, false], treeG F43⟩)] [0, 1, 2, 3, 5, 6, 7, 8, 9, 15, 42] [(6, [⟨1, [3], [], []⟩, ⟨0, [0], [], []⟩, ⟨1, [2], [], []⟩, ⟨0, [7], [], []⟩, ⟨1, [31, 32], [2], []⟩, ⟨1, [33], [2, 4], []⟩, ⟨0, [7], [], []⟩, ⟨0, [35], [], []⟩, ⟨0, [6], [], []⟩, ⟨0, [8], [], []⟩, ⟨1, [37, 38], [], []⟩, ⟨2, [29, 30, 34, 36, 39], [0, 2, 4, 5, 10], []⟩, ⟨0, [40], [0, 2, 4, 5, 10, 11], []⟩])] := ⟨(.cons g41 (.cons c43.g (.nil _)))⟩
set_option maxHeartbeats 4000000 in
theorem g44 : GCon Tryz.prog 44 G44 := by
 refine gconc E_ok (rs := [.tmp 5 27]) Tryz.func44 rfl Tryz.ntmps44 (by kernel_rfl) rfl (by decide) G44 (np := 4) ?_ ?_
 · intro HB xs h; unfold G44; split <;> first | rfl | (simp at h; done)
 intro HB xs H r hG hwf hex
 unfold G44 at hG
 split at hG <;> try (cases hG; done)
 split at hG <;> try (cases hG; done)
 rename_i x hx
 split at hG
 case isFalse => cases hG
 rename_i hcc
 cases hG
 obtain ⟨⟨hlen, hlow, hspl, hlows, htl, hfew⟩, hfit⟩ := hcc
 obtain rfl := inv_inv hx
 obtain ⟨l, sp, ts⟩ := x
 have hfit2 : cumN ts ts.length = sp.length := hfit
 dsimp only at hlen hlow hspl hlows htl hfew
 have hmt : (ts.map txT).length = ts.length := List.length_map ..
 have hms : (sp.map coinT).length = sp.length := List.length_map ..
 obtain ⟨R, hR⟩ : ∃ R, undV nmH ts sp ts.length l = R := ⟨_, rfl⟩
 simp only [udH, udN, ud1, coinsT, txsT, hR]
 have hw0 : IntKind.i64.wrap ((ts.length : Int) - 1) = (ts.length : Int) - 1 := by rw [wrap_i64 (by omega) (by omega)]
 have htk : (sp.take (cumN ts ts.length)).map coinT = sp.map coinT := by rw [hfit2, List.take_length]
 refine AWP.weak (Weak.moveBx (v' := _) 0 1 [0] 0 _ rfl rfl rfl (by decide) (by simp only [W, eqq, ↓reduceIte, Nat.reduceEqDiff, Nat.reduceLT, Nat.reduceLeDiff, Nat.reduceAdd, Nat.reduceMul, Nat.reduceSub, Nat.reduceBEq, Int.reduceLE, Int.reduceLT, Int.reduceNeg, Int.reduceToNat, Int.reduceEq, Int.reduceBEq, Int.reduceBNe, Nat.reduceBNe, bne_self_eq_false, reduceCtorEq, gt_iff_lt, ge_iff_le]) (by simp only [W, eqq, ↓reduceIte, Nat.reduceEqDiff, Nat.reduceLT, Nat.reduceLeDiff, Nat.reduceAdd, Nat.reduceMul, Nat.reduceSub, Nat.reduceBEq, Int.reduceLE, Int.reduceLT, Int.reduceNeg, Int.reduceToNat, Int.reduceEq, Int.reduceBEq, Int.reduceBNe, Nat.reduceBNe, bne_self_eq_false, reduceCtorEq, gt_iff_lt, ge_iff_le]) (by simp only [W, eqq, ↓reduceIte, Nat.reduceEqDiff, Nat.reduceLT, Nat.reduceLeDiff, Nat.reduceAdd, Nat.reduceMul, Nat.reduceSub, Nat.reduceBEq, Int.reduceLE, Int.reduceLT, Int.reduceNeg, Int.reduceToNat, Int.reduceEq, Int.reduceBEq, Int.reduceBNe, Nat.reduceBNe, bne_self_eq_false, reduceCtorEq, gt_iff_lt, ge_iff_le]; rfl)) ?_
 repeat refine St (And.intro (And.intro @gentry.eq_1 <| @gentry.eq_2) <| And.intro hmt <| hw0) ct44 ?_
 refine AWP.loop (G := { x : Nat × List TCoin // x.1 ≤ ts.length ∧ x.2.length + cumN ts x.1 ≤ 300000 + sp.length ∧ lowL x.2 = true ∧ undV nmH ts sp x.1 x.2 = R }) (fun x => ⟨[(0, .ptr 0 0 []), (1, .ptr 2 0 []), (2, .ptr 3 0 []), (3, .ptr 4 0 []), (6, .t (.sq 37 ((sp.take (cumN ts x.1.1)).map coinT))), (7, .t (.int .i64 ((x.1.1 : Int) - 1)))], [.bx (.st [.own 5]), .no, .bx (.t (.sq 37 (sp.map coinT))), .bx (.t (.sq 4 (ts.map txT))), .bx (.t (.fn 41)), .sq 37 (x.1.2.map coinT)]⟩) (fun x => x.1.1) ⟨⟨ts.length, l⟩, Nat.le_refl _, by show l.length + cumN ts ts.length ≤ 300000 + sp.length; omega, hlow, hR⟩ (Wt htk [0, 1, 2, 3, 6, 7] [0, 1, 2, 3, 4, 5]) ?_
 rintro ⟨⟨i1, L⟩, hi, hL, hLl, hT⟩
 dsimp only at hi hL hLl hT ⊢
 clear hR hw0 htk
 cases i1 with
 | zero =>
   have hge : ((0 : Int) ≤ ((0 : Nat) : Int) - 1) = False := eq_false (by omega)
   rw [undV] at hT
   subst hT
   dsimp only
   repeat refine St hge ct44 ?_
   exact AWP.ret (Fin trivial [] [0, 1, 2, 3, 4, 5])
 | succ i =>
 have hzi : ((i + 1 : Nat) : Int) - 1 = (i : Int) := by omega
 have hge : ((0 : Int) ≤ (i : Int)) = True := eq_true (by omega)
 have hlt : i < ts.length := by omega
 have hlt2 : (i : Int) < (ts.length : Int) := by omega
 have hw1 : IntKind.i64.wrap ((i : Int) - 1) = (i : Int) - 1 := by rw [wrap_i64 (by omega) (by omega)]
 have hb0 : ((i : Int) == 0) = decide (i = 0) := by
   rw [Bool.eq_iff_iff, beq_iff_eq, decide_eq_true_eq]; omega
 have hg := txs_getD ts i hlt
 have hfi := few_get hfew hlt
 have hin := inputs_c (ts.getD i dTx) (decide (i = 0)) (by omega)
 have hcm : cumN ts (i + 1) = cumN ts i + (insR (ts.getD i dTx) (decide (i = 0))).length := rfl
 have hcle : cumN ts (i + 1) ≤ sp.length := by rw [← hfit2]; exact cumN_mono ts (by omega)
 have hcut : ((sp.take (cumN ts (i + 1))).drop (cumN ts i)).length = cumN ts (i + 1) - cumN ts i := by
   rw [List.length_drop, List.length_take]; omega
 have hrv := rev_c L (ts.getD i dTx) (decide (i = 0)) ((sp.take (cumN ts (i + 1))).drop (cumN ts i)) (by omega) hLl (by omega) (lowL_cut hlows _ _) hfi
 obtain ⟨b1, b2⟩ := revV_ok hLl (ts.getD i dTx) (nmH (ts.getD i dTx)) (decide (i = 0)) (lowL_cut hlows (cumN ts (i + 1)) (cumN ts i))
 rw [undV] at hT
 have hml : ((sp.take (cumN ts (i + 1))).map coinT).length = cumN ts (i + 1) := by rw [List.length_map, List.length_take]; omega
 have hmr : ((insR (ts.getD i dTx) (decide (i = 0))).map rfT).length = (insR (ts.getD i dTx) (decide (i = 0))).length := List.length_map ..
 have hw2 : IntKind.i64.wrap ((cumN ts (i + 1) : Int) - ((insR (ts.getD i dTx) (decide (i = 0))).length : Int)) = (cumN ts i : Int) := by rw [wrap_i64 (by omega) (by omega)]; omega
 have hc1 : ((sp.take (cumN ts (i + 1))).map coinT).drop (cumN ts i) = ((sp.take (cumN ts (i + 1))).drop (cumN ts i)).map coinT := by rw [List.map_drop]
 have hc2 : ((sp.take (cumN ts (i + 1))).map coinT).take (cumN ts i) = (sp.take (cumN ts i)).map coinT := by
   rw [← List.map_take, List.take_take, Nat.min_eq_left (by omega)]
 have hci : cumN ts i ≤ cumN ts (i + 1) := by omega
 have hci2 : (cumN ts i : Int) ≤ (cumN ts (i + 1) : Int) := by omega
 have hci3 : (0 : Int) ≤ (cumN ts i : Int) := by omega
 rw [txT_st] at hg hrv
 simp only [refsT] at hin
 rw [hzi]
 rw [hcut] at b2
 clear hcut hfit2 hfit hcm hfi hlow hlen
 generalize (sp.take (cumN ts (i + 1))).drop (cumN ts i) = cu at *
 generalize ts.getD i dTx = t at *
 generalize (sp.take (cumN ts (i + 1))).map coinT = Y at *
 generalize insR t (decide (i = 0)) = I at *
 generalize I.map rfT = J at *
 obtain ⟨f, hf⟩ : ∃ f, decide (i = 0) = f := ⟨_, rfl⟩
 rw [hf] at hb0 hin hrv hT b1 b2
 generalize revV L t (nmH t) f cu = Z at *
 obtain ⟨L', e⟩ := Z
 dsimp only at hT hrv b1 b2
 simp only [vwN] at hrv
 by_cases he : e = 0
 · subst he
   rw [if_neg (by simp)] at hT
   have hd0 : ((0 : Int) != 0) = false := rfl
   repeat refine St (And.intro hge <| And.intro hlt <| And.intro hlt2 <| And.intro hmt <| And.intro hg <| And.intro hb0 <| And.intro hin <| And.intro hml <| And.intro hmr <| And.intro hw2 <| And.intro hc1 <| And.intro hc2 <| And.intro hci <| And.intro hci2 <| And.intro hci3 <| And.intro hrv <| And.intro hd0 <| hw1) ct44 ?_
   exact ⟨⟨⟨i, L'⟩, by show i ≤ ts.length; omega, by show L'.length + cumN ts i ≤ 300000 + sp.length; omega, b1, hT⟩, (Wt trivial [0, 1, 2, 3, 6, 7] [0, 1, 2, 3, 4, 6]), by simp only; omega⟩
 · rw [if_pos he] at hT
   have he2 : (e != 0) = true := by simpa using he
   subst hT
   dsimp only
   repeat refine St (And.intro hge <| And.intro hlt <| And.intro hlt2 <| And.intro hmt <| And.intro hg <| And.intro hb0 <| And.intro hin <| And.intro hml <| And.intro hmr <| And.intro hw2 <| And.intro hc1 <| And.intro hc2 <| And.intro hci <| And.intro hci2 <| And.intro hci3 <| And.intro hrv <| And.intro he2 <| hw1) ct44 ?_
   exact AWP.ret (Fin trivial [] [0, 1, 2, 3, 4, 6])
theorem ud1_c (x : UdX) (h : x.ok) (h2 : x.fit) : G44 (udH x) [.ptr 0 0 [], .ptr 2 0 [], .ptr 3 0 [], .ptr 4 0 []] = some (udN x (ud1 x).1, .t (.int .i64 (ud1 x).2)) := by
 simp only [G44, inv_of udH_inj]
 exact if_pos ⟨h, h2⟩
noncomputable def G34U : GFun
 | HB, [.ptr 0 0 [], .clo 44 [.ptr 2 0 [], .ptr 3 0 [], .ptr 4 0 []]] => match inv udH HB with
   | some x => @ite _ ((x.ok ∧ x.fit)) (Classical.propDecidable _) ((some (udN x (if (ud1 x).2 = 0 then (ud1 x).1 else x.l), .t (.int .i64 (ud1 x).2)))) none
   | none => none
 | _, _ => none
theorem ct34U : CT [(44, ⟨[true, true, true, true], G44⟩), (54, ⟨[true], G54⟩)] [0, 1, 4, 5, 6, 18] [] := ⟨(.cons g44 (.cons g54 (.nil _)))⟩
set_option maxHeartbeats 4000000 in
theorem g34U : GCon Tryz.prog 34 G34U := by
 refine gconc E_ok (rs := [.tmp 4 27]) Tryz.func34 rfl Tryz.ntmps34 (by kernel_rfl) rfl (by decide) G34U (np := 2) ?_ ?_
 · intro HB xs h; unfold G34U; split <;> first | rfl | (simp at h; done)
 intro HB xs H r hG hwf hex
 unfold G34U at hG
 split at hG <;> try (cases hG; done)
 
 split at hG <;> try (cases hG; done)
 rename_i x hx
 split at hG
 case isFalse => cases hG
 rename_i hcc
 cases hG
 obtain rfl := inv_inv hx
 have h := ud1_c x hcc.1 hcc.2
 have hcl := clone_vc x.l (by have := hcc.1.1; omega)
 generalize ud1 x = R at *
 obtain ⟨l, sp, ts⟩ := x
 obtain ⟨L, e⟩ := R
 dsimp only at h hcl ⊢
 simp only [udH, udN, coinsT, txsT] at h ⊢
 by_cases he : e = 0
 · subst he
   rw [if_pos rfl]
   have he2 : ((0 : Int) == 0) = true := rfl
   repeat refine St (And.intro (And.intro @gentry.eq_1 <| @gentry.eq_2) <| And.intro hcl <| And.intro h <| he2) ct34U ?_
   refine AWP.weak (Weak.drop 1 _ rfl rfl) ?_
   exact AWP.ret (Fin trivial [] [0, 1, 2, 3, 4, 7])
 · rw [if_neg he]
   have he2 : (e == 0) = false := by simpa using he
   repeat refine St (And.intro (And.intro @gentry.eq_1 <| @gentry.eq_2) <| And.intro hcl <| And.intro h <| he2) ct34U ?_
   refine AWP.weak (Weak.moveBx (v' := _) 0 1 [0] 0 _ rfl rfl rfl (by decide) (by simp only [W, eqq, ↓reduceIte, Nat.reduceEqDiff, Nat.reduceLT, Nat.reduceLeDiff, Nat.reduceAdd, Nat.reduceMul, Nat.reduceSub, Nat.reduceBEq, Int.reduceLE, Int.reduceLT, Int.reduceNeg, Int.reduceToNat, Int.reduceEq, Int.reduceBEq, Int.reduceBNe, Nat.reduceBNe, bne_self_eq_false, reduceCtorEq, gt_iff_lt, ge_iff_le]) (by simp only [W, eqq, ↓reduceIte, Nat.reduceEqDiff, Nat.reduceLT, Nat.reduceLeDiff, Nat.reduceAdd, Nat.reduceMul, Nat.reduceSub, Nat.reduceBEq, Int.reduceLE, Int.reduceLT, Int.reduceNeg, Int.reduceToNat, Int.reduceEq, Int.reduceBEq, Int.reduceBNe, Nat.reduceBNe, bne_self_eq_false, reduceCtorEq, gt_iff_lt, ge_iff_le]) (by simp only [W, eqq, ↓reduceIte, Nat.reduceEqDiff, Nat.reduceLT, Nat.reduceLeDiff, Nat.reduceAdd, Nat.reduceMul, Nat.reduceSub, Nat.reduceBEq, Int.reduceLE, Int.reduceLT, Int.reduceNeg, Int.reduceToNat, Int.reduceEq, Int.reduceBEq, Int.reduceBNe, Nat.reduceBNe, bne_self_eq_false, reduceCtorEq, gt_iff_lt, ge_iff_le]; rfl)) ?_
   exact AWP.ret (Fin trivial [] [0, 1, 2, 3, 4, 8])
theorem trialU_c (x : UdX) (h : x.ok) (h2 : x.fit) : G34U (udH x) [.ptr 0 0 [], .clo 44 [.ptr 2 0 [], .ptr 3 0 [], .ptr 4 0 []]] = some (udN x (if (ud1 x).2 = 0 then (ud1 x).1 else x.l), .t (.int .i64 (ud1 x).2)) := by
 simp only [G34U, inv_of udH_inj]
 exact if_pos ⟨h, h2⟩
noncomputable def undoV (l : List TCoin) (ts : List TTx) (sp : List TCoin) : List TCoin × Int :=
 if cumN ts ts.length = sp.length then (if (ud1 ⟨l, sp, ts⟩).2 = 0 then (ud1 ⟨l, sp, ts⟩).1 else l, (ud1 ⟨l, sp, ts⟩).2) else (l, 1)
noncomputable def G25U : GFun
 | HB, [.ptr 0 0 [], .t x, .t y] => match inv vwH HB, inv txsT x, inv coinsT y with
   | some l, some ts, some sp => @ite _ ((UdX.ok ⟨l, sp, ts⟩)) (Classical.propDecidable _) ((some (vwN (undoV l ts sp).1, .t (.int .i64 (undoV l ts sp).2)))) none
   | _, _, _ => none
 | _, _ => none
theorem ct25U : CT [(34, ⟨[true, true], G34U⟩), (41, ⟨[true, false, false, false], G41⟩), (43, ⟨[false, false], treeG F43⟩)] [0, 1, 2, 4, 5, 6, 7, 8, 9, 10, 12, 13, 14, 15, 16, 31] [] := ⟨(.cons g34U (.cons g41 (.cons c43.g (.nil _))))⟩
set_option maxHeartbeats 4000000 in
theorem g25U : GCon Tryz.prog 25 G25U := by
 refine gconc E_ok (rs := [.tmp 6 27]) Tryz.func25 rfl Tryz.ntmps25 (by kernel_rfl) rfl (by decide) G25U (np := 3) ?_ ?_
 · intro HB xs h; unfold G25U; split <;> first | rfl | (simp at h; done)
 intro HB xs H r hG hwf hex
 unfold G25U at hG
 split at hG <;> try (cases hG; done)
 
 rename_i x y
 split at hG <;> try (cases hG; done)
 rename_i l ts sp hl htx hsp
 split at hG
 case isFalse => cases hG
 rename_i hcc
 cases hG
 obtain rfl := inv_inv hl
 obtain rfl := inv_inv htx
 obtain rfl := inv_inv hsp
 obtain ⟨hlen, hlow, hspl, hlows, htl, hfew⟩ := hcc
 dsimp only at hlen hlow hspl hlows htl hfew
 have hmt : (ts.map txT).length = ts.length := List.length_map ..
 have hms : (sp.map coinT).length = sp.length := List.length_map ..
 have hcb : ∀ i, i ≤ ts.length → cumN ts i ≤ 10000 * i := by
   intro i
   induction i with
   | zero => intro _; exact Nat.le_refl _
   | succ i ih =>
     intro hi
     have h1 := ih (by omega)
     have h2 := insR_len (ts.getD i dTx) (decide (i = 0))
     have h3 := few_get hfew (show i < ts.length by omega)
     show cumN ts i + (insR (ts.getD i dTx) (decide (i = 0))).length ≤ _
     omega
 simp only [vwH, coinsT, txsT]
 repeat refine St (And.intro (And.intro @gentry.eq_1 <| @gentry.eq_2) <| hmt) ct25U ?_
 refine AWP.loop (G := { i : Nat // i ≤ ts.length }) (fun i => ⟨[(0, .ptr 0 0 []), (4, .ptr 2 0 []), (5, .ptr 3 0 []), (7, .t (.int .i64 (cumN ts i.1 : Int))), (13, .t (.sq 4 (ts.map txT))), (14, .t (.int .i64 (ts.length : Int))), (15, .t (.int .i64 (i.1 : Int)))], [.bx (.st [.own 1]), .sq 37 (l.map coinT), .bx (.t (.sq 4 (ts.map txT))), .bx (.t (.sq 37 (sp.map coinT)))]⟩) (fun i => ts.length - i.1) ⟨0, Nat.zero_le _⟩ (Wt (And.intro @cumN.eq_1 <| @cumN.eq_2) [0, 4, 5, 7, 13, 14, 15] [0, 1, 2, 3]) ?_
 rintro ⟨i, hi⟩
 dsimp only
 by_cases hlt : i < ts.length
 · have hlt2 : (i : Int) < (ts.length : Int) := by omega
   have hw1 : IntKind.i64.wrap ((i : Int) + 1) = ((i + 1 : Nat) : Int) := by rw [wrap_i64 (by omega) (by omega)]; omega
   have hb0 : ((i : Int) == 0) = decide (i = 0) := by
     rw [Bool.eq_iff_iff, beq_iff_eq, decide_eq_true_eq]; omega
   have hg := txs_getD ts i hlt
   have hfi := few_get hfew hlt
   have hin := inputs_c (ts.getD i dTx) (decide (i = 0)) (by omega)
   have hmr : ((insR (ts.getD i dTx) (decide (i = 0))).map rfT).length = (insR (ts.getD i dTx) (decide (i = 0))).length := List.length_map ..
   have hcm : cumN ts (i + 1) = cumN ts i + (insR (ts.getD i dTx) (decide (i = 0))).length := rfl
   have h1 := hcb i hi
   have h2 := insR_len (ts.getD i dTx) (decide (i = 0))
   have hw2 : IntKind.i64.wrap ((cumN ts i : Int) + ((insR (ts.getD i dTx) (decide (i = 0))).length : Int)) = (cumN ts (i + 1) : Int) := by rw [wrap_i64 (by omega) (by omega)]; omega
   rw [txT_st] at hg
   simp only [refsT] at hin
   clear hcm hcb h1 h2 hfi
   generalize ts.getD i dTx = t at *
   generalize insR t (decide (i = 0)) = I at *
   generalize I.map rfT = J at *
   obtain ⟨f, hf⟩ : ∃ f, decide (i = 0) = f := ⟨_, rfl⟩
   rw [hf] at hb0 hin
   repeat refine St (And.intro hlt <| And.intro hlt2 <| And.intro hmt <| And.intro hg <| And.intro hb0 <| And.intro hin <| And.intro hmr <| And.intro hw2 <| hw1) ct25U ?_
   exact ⟨⟨i + 1, by omega⟩, (Wt trivial [0, 4, 5, 7, 13, 14, 15] [0, 1, 2, 3]), by simp only; omega⟩
 obtain rfl : i = ts.length := by omega
 have hlt2 : ¬ (ts.length : Int) < (ts.length : Int) := by omega
 unfold undoV
 by_cases hfit : cumN ts ts.length = sp.length
 · have h := trialU_c ⟨l, sp, ts⟩ ⟨hlen, hlow, hspl, hlows, htl, hfew⟩ hfit
   have hne : ((cumN ts ts.length : Int) != (sp.length : Int)) = false := by
     rw [bne_eq_false_iff_eq]; omega
   rw [if_pos hfit]
   generalize ud1 ⟨l, sp, ts⟩ = R at *
   obtain ⟨L, e⟩ := R
   dsimp only at h ⊢
   generalize (if e = 0 then L else l) = Z at *
   simp only [udH, udN, coinsT, txsT] at h
   repeat refine St (And.intro hlt2 <| And.intro hms <| And.intro hne <| h) ct25U ?_
   exact AWP.ret (Fin @vwN.eq_def [] [0, 1, 5])
 · have hne : ((cumN ts ts.length : Int) != (sp.length : Int)) = true := by
     rw [bne_iff_ne]; omega
   rw [if_neg hfit]
   dsimp only
   repeat refine St (And.intro hlt2 <| And.intro hms <| hne) ct25U ?_
   refine AWP.weak (Weak.moveBx (v' := _) 0 1 [0] 0 _ rfl rfl rfl (by decide) (by simp only [W, eqq, ↓reduceIte, Nat.reduceEqDiff, Nat.reduceLT, Nat.reduceLeDiff, Nat.reduceAdd, Nat.reduceMul, Nat.reduceSub, Nat.reduceBEq, Int.reduceLE, Int.reduceLT, Int.reduceNeg, Int.reduceToNat, Int.reduceEq, Int.reduceBEq, Int.reduceBNe, Nat.reduceBNe, bne_self_eq_false, reduceCtorEq, gt_iff_lt, ge_iff_le]) (by simp only [W, eqq, ↓reduceIte, Nat.reduceEqDiff, Nat.reduceLT, Nat.reduceLeDiff, Nat.reduceAdd, Nat.reduceMul, Nat.reduceSub, Nat.reduceBEq, Int.reduceLE, Int.reduceLT, Int.reduceNeg, Int.reduceToNat, Int.reduceEq, Int.reduceBEq, Int.reduceBNe, Nat.reduceBNe, bne_self_eq_false, reduceCtorEq, gt_iff_lt, ge_iff_le]) (by simp only [W, eqq, ↓reduceIte, Nat.reduceEqDiff, Nat.reduceLT, Nat.reduceLeDiff, Nat.reduceAdd, Nat.reduceMul, Nat.reduceSub, Nat.reduceBEq, Int.reduceLE, Int.reduceLT, Int.reduceNeg, Int.reduceToNat, Int.reduceEq, Int.reduceBEq, Int.reduceBNe, Nat.reduceBNe, bne_self_eq_false, reduceCtorEq, gt_iff_lt, ge_iff_le]; rfl)) ?_
   exact AWP.ret (Fin @vwN.eq_def [] [0, 1, 4])
theorem undo_c (l : List TCoin) (ts : List TTx) (sp : List TCoin) (h : UdX.ok ⟨l, sp, ts⟩) : G25U [.bx (.st [.own 1]), .sq 37 (l.map coinT)] [.ptr 0 0 [], .t (.sq 4 (ts.map txT)), .t (.sq 37 (sp.map coinT))] = some (vwN (undoV l ts sp).1, .t (.int .i64 (undoV l ts sp).2)) := by
 show G25U (vwH l) [.ptr 0 0 [], .t (txsT ts), .t (coinsT sp)] = _
 simp only [G25U, inv_of vwH_inj, inv_of txsT_inj, inv_of coinsT_inj]
 exact if_pos h
end Go.Fw

end

section
namespace Go.Fw
open Go Go.Proofs
theorem unmV_srt (nm : H32) : ∀ (n : Nat) (l : List TCoin), Srt l → Srt (unmV nm n l).1
 | 0, l, h => h
 | n + 1, l, h => by
   unfold unmV
   split
   · exact spdV_srt h _
   · exact unmV_srt nm n _ (spdV_srt h _)
theorem revV_srt {l : List TCoin} (h : Srt l) (t : TTx) (nm : H32) (first : Bool) (sp : List TCoin) : Srt (revV l t nm first sp).1 := by
 unfold revV
 split
 · exact h
 · split
   · exact h
   · split
     · exact unmV_srt _ _ _ h
     · exact addsV_srt _ _ (unmV_srt _ _ _ h)
noncomputable def F30 : Fun
 | [w, x, y] => match inv coinsT w, inv txsT x, inv coinsT y with
   | some l, some ts, some sp => @ite _ ((UdX.ok ⟨l, sp, ts⟩ ∧ Srt l)) (Classical.propDecidable _) ((some ([], .tup [.t (coinsT (undoV l ts sp).1), .t (.int .i64 (undoV l ts sp).2)]))) none
   | _, _, _ => none
 | _ => none
theorem ct30 : CT [(28, ⟨[false, false, false, false], treeG F28⟩), (47, ⟨[false, false], treeG F47⟩)] [0, 1, 2, 6, 7, 8, 9, 10, 11, 12, 13, 14, 18, 33, 40, 68] [(13, [⟨0, [10], [], []⟩, ⟨0, [1], [], []⟩, ⟨0, [11], [], []⟩, ⟨1, [52, 53], [], []⟩, ⟨1, [54], [3], []⟩, ⟨0, [11], [], []⟩, ⟨0, [56], [], []⟩, ⟨0, [2], [], []⟩, ⟨0, [8], [], []⟩, ⟨0, [12], [], []⟩, ⟨0, [59, 60], [], []⟩, ⟨0, [8], [], []⟩, ⟨1, [58, 61, 62], [], []⟩, ⟨1, [51, 55, 57, 63], [3, 4, 12], []⟩, ⟨0, [64], [3, 4, 12, 13], []⟩, ⟨0, [50], [3, 4, 12, 13], []⟩, ⟨0, [50], [3, 4, 12, 13], []⟩, ⟨0, [65], [3, 4, 12, 13], []⟩, ⟨0, [66], [3, 4, 12, 13], []⟩])] := ⟨(.cons c28.g (.cons c47.g (.nil _)))⟩
set_option maxRecDepth 8000 in
set_option maxHeartbeats 8000000 in
theorem c30 : ACon Tryz.prog 30 F30 := by
 refine aconc E_ok (rs := [.tmp 6 22, .tmp 7 27]) Tryz.func30 rfl Tryz.ntmps30 (by kernel_rfl) rfl (by decide) F30 (np := 3) ?_ ?_
 · intro ts h; unfold F30; split <;> first | rfl | (simp at h; done)
 intro ts H r hF hwf
 unfold F30 at hF
 split at hF <;> try (cases hF; done)
 rename_i w x y
 split at hF <;> try (cases hF; done)
 rename_i l ts sp hl htx hsp
 split at hF
 case isFalse => cases hF
 rename_i hcc
 cases hF
 obtain rfl := inv_inv hl
 obtain rfl := inv_inv htx
 obtain rfl := inv_inv hsp
 obtain ⟨⟨hlen, hlow, hspl, hlows, htl, hfew⟩, hsr⟩ := hcc
 dsimp only at hlen hlow hspl hlows htl hfew
 have hmt : (ts.map txT).length = ts.length := List.length_map ..
 have hms : (sp.map coinT).length = sp.length := List.length_map ..
 have hcb : ∀ i, i ≤ ts.length → cumN ts i ≤ 10000 * i := by
   intro i
   induction i with
   | zero => intro _; exact Nat.le_refl _
   | succ i ih =>
     intro hi
     have h1 := ih (by omega)
     have h2 := insR_len (ts.getD i dTx) (decide (i = 0))
     have h3 := few_get hfew (show i < ts.length by omega)
     show cumN ts i + (insR (ts.getD i dTx) (decide (i = 0))).length ≤ _
     omega
 have hd0 : ((0 : Int) != 0) = false := rfl
 obtain ⟨R, hR⟩ : ∃ R, undoV l ts sp = R := ⟨_, rfl⟩
 rw [hR]
 simp only [coinsT, txsT]
 repeat refine St hmt ct30 ?_
 refine AWP.loop (G := { i : Nat // i ≤ ts.length }) (fun i => ⟨[(0, .t (.sq 37 (l.map coinT))), (1, .t (.sq 4 (ts.map txT))), (2, .t (.sq 37 (sp.map coinT))), (8, .t (.int .i64 (cumN ts i.1 : Int))), (9, .t (.int .i64 (i.1 : Int)))], []⟩) (fun i => ts.length - i.1) ⟨0, Nat.zero_le _⟩ (Wt (And.intro @cumN.eq_1 <| @cumN.eq_2) [0, 1, 2, 8, 9] []) ?_
 rintro ⟨i, hi⟩
 dsimp only
 by_cases hlt : i < ts.length
 · have hlt2 : (i : Int) < (ts.length : Int) := by omega
   have hw1 : IntKind.i64.wrap ((i : Int) + 1) = ((i + 1 : Nat) : Int) := by rw [wrap_i64 (by omega) (by omega)]; omega
   have hb0 : ((i : Int) == 0) = decide (i = 0) := by
     rw [Bool.eq_iff_iff, beq_iff_eq, decide_eq_true_eq]; omega
   have hg := txs_getD ts i hlt
   have hfi := few_get hfew hlt
   have hin := rinputs_c (ts.getD i dTx) (decide (i = 0))
   have hcm : cumN ts (i + 1) = cumN ts i + (insR (ts.getD i dTx) (decide (i = 0))).length := rfl
   have h1 := hcb i hi
   have h2 := insR_len (ts.getD i dTx) (decide (i = 0))
   have hw2 : IntKind.i64.wrap ((cumN ts i : Int) + ((insR (ts.getD i dTx) (decide (i = 0))).length : Int)) = (cumN ts (i + 1) : Int) := by rw [wrap_i64 (by omega) (by omega)]; omega
   rw [txT_st] at hg
   clear hcm hcb h1 h2 hfi
   generalize ts.getD i dTx = t at *
   generalize insR t (decide (i = 0)) = I at *
   obtain ⟨f, hf⟩ : ∃ f, decide (i = 0) = f := ⟨_, rfl⟩
   rw [hf] at hb0 hin
   repeat refine St (And.intro hlt <| And.intro hlt2 <| And.intro hmt <| And.intro hg <| And.intro hb0 <| And.intro hin <| And.intro hw2 <| hw1) ct30 ?_
   exact ⟨⟨i + 1, by omega⟩, (Wt trivial [0, 1, 2, 8, 9] []), by simp only; omega⟩
 obtain rfl : i = ts.length := by omega
 have hlt2 : ¬ (ts.length : Int) < (ts.length : Int) := by omega
 unfold undoV at hR
 by_cases hfit : cumN ts ts.length = sp.length
 rotate_left
 · have hne : ((cumN ts ts.length : Int) != (sp.length : Int)) = true := by
     rw [bne_iff_ne]; omega
   rw [if_neg hfit] at hR
   subst hR
   repeat refine St (And.intro hlt2 <| And.intro hmt <| And.intro hms <| hne) ct30 ?_
   exact AWP.ret (Fin trivial [] [])
 have hne : ((cumN ts ts.length : Int) != (sp.length : Int)) = false := by
   rw [bne_eq_false_iff_eq]; omega
 rw [if_pos hfit] at hR
 obtain ⟨K, hK⟩ : ∃ K, undV nmH ts sp ts.length l = K := ⟨_, rfl⟩
 have hK2 : ud1 ⟨l, sp, ts⟩ = K := hK
 rw [hK2] at hR
 have hw0 : IntKind.i64.wrap ((ts.length : Int) - 1) = (ts.length : Int) - 1 := by rw [wrap_i64 (by omega) (by omega)]
 repeat refine St (And.intro hlt2 <| And.intro hmt <| And.intro hms <| And.intro hne <| hw0) ct30 ?_
 refine AWP.loop (G := { x : Nat × List TCoin // x.1 ≤ ts.length ∧ x.2.length + cumN ts x.1 ≤ 300000 + sp.length ∧ lowL x.2 = true ∧ Srt x.2 ∧ undV nmH ts sp x.1 x.2 = K }) (fun x => ⟨[(0, .t (.sq 37 (l.map coinT))), (1, .t (.sq 4 (ts.map txT))), (2, .t (.sq 37 (sp.map coinT))), (8, .t (.int .i64 (cumN ts x.1.1 : Int))), (10, .t (.sq 37 (x.1.2.map coinT))), (11, .t (.int .i64 ((x.1.1 : Int) - 1)))], []⟩) (fun x => x.1.1) ⟨⟨ts.length, l⟩, Nat.le_refl _, by show l.length + cumN ts ts.length ≤ 300000 + sp.length; omega, hlow, hsr, hK⟩ (Wt trivial [0, 1, 2, 8, 10, 11] []) ?_
 rintro ⟨⟨i1, L⟩, hi, hL, hLl, hLs, hT⟩
 dsimp only at hi hL hLl hLs hT ⊢
 cases i1 with
 | zero =>
   have hge : ((0 : Int) ≤ ((0 : Nat) : Int) - 1) = False := eq_false (by omega)
   rw [undV] at hT
   rw [← hT, if_pos rfl] at hR
   subst hR
   dsimp only
   repeat refine St hge ct30 ?_
   exact AWP.ret (Fin trivial [] [])
 | succ i =>
 have hzi : ((i + 1 : Nat) : Int) - 1 = (i : Int) := by omega
 have hge : ((0 : Int) ≤ (i : Int)) = True := eq_true (by omega)
 have hlt : i < ts.length := by omega
 have hlt2 : (i : Int) < (ts.length : Int) := by omega
 have hw1 : IntKind.i64.wrap ((i : Int) - 1) = (i : Int) - 1 := by rw [wrap_i64 (by omega) (by omega)]
 have hb0 : ((i : Int) == 0) = decide (i = 0) := by
   rw [Bool.eq_iff_iff, beq_iff_eq, decide_eq_true_eq]; omega
 have hg := txs_getD ts i hlt
 have hfi := few_get hfew hlt
 have hin := rinputs_c (ts.getD i dTx) (decide (i = 0))
 have hcm : cumN ts (i + 1) = cumN ts i + (insR (ts.getD i dTx) (decide (i = 0))).length := rfl
 have hcle : cumN ts (i + 1) ≤ sp.length := by rw [← hfit]; exact cumN_mono ts (by omega)
 have hcut : ((sp.take (cumN ts (i + 1))).drop (cumN ts i)).length = cumN ts (i + 1) - cumN ts i := by
   rw [List.length_drop, List.length_take]; omega
 have hrv := rrevert_c L (ts.getD i dTx) (decide (i = 0)) ((sp.take (cumN ts (i + 1))).drop (cumN ts i)) (by omega) hLs (by omega)
 obtain ⟨b1, b2⟩ := revV_ok hLl (ts.getD i dTx) (nmH (ts.getD i dTx)) (decide (i = 0)) (lowL_cut hlows (cumN ts (i + 1)) (cumN ts i))
 have b3 := revV_srt hLs (ts.getD i dTx) (nmH (ts.getD i dTx)) (decide (i = 0)) ((sp.take (cumN ts (i + 1))).drop (cumN ts i))
 rw [undV] at hT
 have hre : revertV L (ts.getD i dTx) (decide (i = 0)) ((sp.take (cumN ts (i + 1))).drop (cumN ts i)) = (if (revV L (ts.getD i dTx) (nmH (ts.getD i dTx)) (decide (i = 0)) ((sp.take (cumN ts (i + 1))).drop (cumN ts i))).2 = 0 then (revV L (ts.getD i dTx) (nmH (ts.getD i dTx)) (decide (i = 0)) ((sp.take (cumN ts (i + 1))).drop (cumN ts i))).1 else L, (revV L (ts.getD i dTx) (nmH (ts.getD i dTx)) (decide (i = 0)) ((sp.take (cumN ts (i + 1))).drop (cumN ts i))).2) := rfl
 rw [hre] at hrv
 have hw2 : IntKind.i64.wrap ((cumN ts (i + 1) : Int) - ((insR (ts.getD i dTx) (decide (i = 0))).length : Int)) = (cumN ts i : Int) := by rw [wrap_i64 (by omega) (by omega)]; omega
 have hc1 : ((sp.map coinT).take (cumN ts (i + 1))).drop (cumN ts i) = ((sp.take (cumN ts (i + 1))).drop (cumN ts i)).map coinT := by rw [List.map_drop, List.map_take]
 have hci : cumN ts i ≤ cumN ts (i + 1) := by omega
 have hci2 : (cumN ts i : Int) ≤ (cumN ts (i + 1) : Int) := by omega
 have hci3 : (0 : Int) ≤ (cumN ts i : Int) := by omega
 have hci4 : (cumN ts (i + 1) : Int) ≤ (sp.length : Int) := by omega
 have hci5 : (0 : Int) ≤ (cumN ts (i + 1) : Int) := by omega
 rw [txT_st] at hg
 rw [hzi]
 rw [hcut] at b2
 clear hcut hfit hcm hfi hlow hlen hre hK hK2
 generalize (sp.take (cumN ts (i + 1))).drop (cumN ts i) = cu at *
 generalize ts.getD i dTx = t at *
 generalize insR t (decide (i = 0)) = I at *
 obtain ⟨f, hf⟩ : ∃ f, decide (i = 0) = f := ⟨_, rfl⟩
 rw [hf] at hb0 hin hrv hT b1 b2 b3
 generalize revV L t (nmH t) f cu = Z at *
 obtain ⟨L', e⟩ := Z
 dsimp only at hT hrv b1 b2 b3
 by_cases he : e = 0
 · subst he
   rw [if_neg (by simp)] at hT
   rw [if_pos rfl] at hrv
   repeat refine St (And.intro hge <| And.intro hlt <| And.intro hlt2 <| And.intro hmt <| And.intro hms <| And.intro hg <| And.intro hb0 <| And.intro hin <| And.intro hw2 <| And.intro hc1 <| And.intro hci <| And.intro hci2 <| And.intro hci3 <| And.intro hci4 <| And.intro hci5 <| And.intro hcle <| And.intro hrv <| And.intro hd0 <| hw1) ct30 ?_
   exact ⟨⟨⟨i, L'⟩, by show i ≤ ts.length; omega, by show L'.length + cumN ts i ≤ 300000 + sp.length; omega, b1, b3, hT⟩, (Wt trivial [0, 1, 2, 8, 10, 11] []), by simp only; omega⟩
 · rw [if_pos he] at hT
   rw [if_neg he] at hrv
   have he2 : (e != 0) = true := by simpa using he
   subst hT
   rw [if_neg (show ¬ (L', e).2 = 0 from he)] at hR
   subst hR
   dsimp only
   repeat refine St (And.intro hge <| And.intro hlt <| And.intro hlt2 <| And.intro hmt <| And.intro hms <| And.intro hg <| And.intro hb0 <| And.intro hin <| And.intro hw2 <| And.intro hc1 <| And.intro hci <| And.intro hci2 <| And.intro hci3 <| And.intro hci4 <| And.intro hci5 <| And.intro hcle <| And.intro hrv <| And.intro he2 <| hw1) ct30 ?_
   exact AWP.ret (Fin trivial [] [])
theorem rundo_c (l : List TCoin) (ts : List TTx) (sp : List TCoin) (h : UdX.ok ⟨l, sp, ts⟩) (h2 : Srt l) : F30 [.sq 37 (l.map coinT), .sq 4 (ts.map txT), .sq 37 (sp.map coinT)] = some ([], .tup [.t (.sq 37 ((undoV l ts sp).1.map coinT)), .t (.int .i64 (undoV l ts sp).2)]) := by
 show F30 [coinsT l, txsT ts, coinsT sp] = some ([], .tup [.t (coinsT (undoV l ts sp).1), .t (.int .i64 (undoV l ts sp).2)])
 simp only [F30, inv_of coinsT_inj, inv_of txsT_inj]
 exact if_pos ⟨h, h2⟩
end Go.Fw

end

section
namespace Go.Fw
open Go Go.Proofs
def smV (a : VAct) : Bool := okCs a.sp && okCs [a.c] && smallBl a.txs && smallBl [a.t]
noncomputable def F8 : Fun
 | [x] => match inv vactT x with
   | some a => some ([], .t (.bool (smV a)))
   | none => none
 | _ => none
theorem ct8 : CT [(4, ⟨[false], treeG F4⟩), (22, ⟨[false], treeG F22⟩)] [0, 1, 2] [] := ⟨(.cons c4.g (.cons c22.g (.nil _)))⟩
theorem vactT_st (a : VAct) : vactT a = .st [.int .i64 a.k, .st [.st [.ba 32 a.c.r.h.1, .int .u32 (a.c.r.i.toNat : Int)], .st [.int .u64 (a.c.out.val.toNat : Int), .by a.c.out.scr], .int .u32 (a.c.ht.toNat : Int), .bool a.c.first],
   .st [.int .u32 (a.t.ver.toNat : Int), .sq 35 (a.t.ins.map inT), .sq 2 (a.t.outs.map outT), .int .u32 (a.t.lock.toNat : Int)], .sq 4 (a.txs.map txT), .int .u32 (a.ht.toNat : Int), .bool a.first, .sq 37 (a.sp.map coinT)] := rfl
set_option maxHeartbeats 2000000 in
theorem c8 : ACon Tryz.prog 8 F8 := by
 refine aconc E_ok (rs := [.tmp 2 4]) Tryz.func8 rfl Tryz.ntmps8 (by kernel_rfl) rfl (by decide) F8 (np := 1) ?_ ?_
 · intro ts h; unfold F8; split <;> first | rfl | (simp at h; done)
 intro ts H r hF hwf
 unfold F8 at hF
 split at hF <;> try (cases hF; done)
 split at hF <;> try (cases hF; done)
 rename_i a ha
 cases hF
 obtain rfl := inv_inv ha
 have h1 := coins_cc a.sp
 have h2 := coins_cc [a.c]
 have h3 := rsmallb_c a.txs
 have h4 := rsmallb_c [a.t]
 simp only [List.map_cons, List.map_nil] at h2 h4
 have hs : smV a = (okCs a.sp && okCs [a.c] && smallBl a.txs && smallBl [a.t]) := rfl
 rw [hs, vactT_st]
 rw [coinT_st] at h2
 rw [txT_st] at h4
 cases c1 : okCs a.sp with
 | false =>
   rw [c1] at h1
   repeat refine St h1 ct8 ?_
   exact AWP.ret (Fin trivial [] [])
 | true =>
 rw [c1] at h1
 cases c2 : okCs [a.c] with
 | false =>
   rw [c2] at h2
   repeat refine St (And.intro h1 <| h2) ct8 ?_
   exact AWP.ret (Fin trivial [] [])
 | true =>
 rw [c2] at h2
 cases c3 : smallBl a.txs with
 | false =>
   rw [c3] at h3
   repeat refine St (And.intro h1 <| And.intro h2 <| h3) ct8 ?_
   exact AWP.ret (Fin trivial [] [])
 | true =>
 rw [c3] at h3
 cases c4 : smallBl [a.t] with
 | false =>
   rw [c4] at h4
   repeat refine St (And.intro h1 <| And.intro h2 <| And.intro h3 <| h4) ct8 ?_
   exact AWP.ret (Fin trivial [] [])
 | true =>
 rw [c4] at h4
 repeat refine St (And.intro h1 <| And.intro h2 <| And.intro h3 <| h4) ct8 ?_
 exact AWP.ret (Fin trivial [] [])
theorem small_cc (a : VAct) : F8 [vactT a] = some ([], .t (.bool (smV a))) := by
 simp only [F8, inv_of vactT_inj]
noncomputable def doV (l : List TCoin) (a : VAct) : List TCoin × List TCoin × Int :=
 if a.k = 1 then ((addV l a.c).1, [], (addV l a.c).2)
 else if a.k = 2 then ((spdV l a.c.r).1, [(spdV l a.c.r).2.1], (spdV l a.c.r).2.2)
 else if a.k = 3 then ((appV l a.t a.ht a.first).1, (appV l a.t a.ht a.first).2.1, (appV l a.t a.ht a.first).2.2)
 else if a.k = 4 then ((revertV l a.t a.first a.sp).1, [], (revertV l a.t a.first a.sp).2)
 else if a.k = 5 then ((blockV l a.txs a.ht).1, (blockV l a.txs a.ht).2.1, (blockV l a.txs a.ht).2.2)
 else if a.k = 6 then ((undoV l a.txs a.sp).1, [], (undoV l a.txs a.sp).2)
 else (l, [], 0)
def toldT (l : List TCoin) (e : Int) : T := .st [.sq 37 (l.map coinT), .int .i64 e]
def VAct.ok (a : VAct) : Prop := lowC a.c = true ∧ lowL a.sp = true ∧ a.sp.length ≤ 1000 ∧ a.txs.length ≤ 8 ∧ a.txs.all fewIn = true ∧ a.t.ins.length ≤ 10000
noncomputable def G9 : GFun
 | HB, [.ptr 0 0 [], .t x] => match inv vwH HB, inv vactT x with
   | some l, some a => @ite _ ((l.length ≤ 300000 ∧ lowL l = true ∧ a.ok)) (Classical.propDecidable _) ((some (vwN (doV l a).1, .t (toldT (doV l a).2.1 (doV l a).2.2)))) none
   | _, _ => none
 | _, _ => none
theorem ct9 : CT [(18, ⟨[true, false, false, false], G18⟩), (19, ⟨[true, false], G19⟩), (20, ⟨[true, false], G20⟩), (23, ⟨[true, false, false, false], G23R⟩), (24, ⟨[true, false, false], G24B⟩), (25, ⟨[true, false, false], G25U⟩)] [0, 1, 3, 4, 5, 6, 7, 8, 9, 10, 12, 13, 20, 34, 50, 61, 75] [] := ⟨(.cons g18 (.cons g19 (.cons g20 (.cons g23R (.cons g24B (.cons g25U (.nil _)))))))⟩
set_option maxRecDepth 8000 in
set_option maxHeartbeats 8000000 in
theorem g9 : GCon Tryz.prog 9 G9 := by
 refine gconc E_ok (rs := [.cell 4 51]) Tryz.func9 rfl Tryz.ntmps9 (by kernel_rfl) rfl (by decide) G9 (np := 2) ?_ ?_
 · intro HB xs h; unfold G9; split <;> first | rfl | (simp at h; done)
 intro HB xs H r hG hwf hex
 unfold G9 at hG
 split at hG <;> try (cases hG; done)
 rename_i x
 split at hG <;> try (cases hG; done)
 rename_i l a hl ha
 split at hG
 case isFalse => cases hG
 rename_i hcc
 cases hG
 obtain ⟨hlen, hlow, o1, o2, o3, o4, o5, o6⟩ := hcc
 obtain rfl := inv_inv hl
 obtain rfl := inv_inv ha
 rw [vactT_st]
 simp only [vwH]
 have ne : ∀ {k : Int} {z : Int}, ¬ k = z → (k == z) = false := fun h => by simpa using h
 unfold doV
 by_cases k1 : a.k = 1
 · have h := add_c l a.c (by omega) o1
   rw [k1]
   simp only [if_pos]
   generalize addV l a.c = R at *
   obtain ⟨L, e⟩ := R
   dsimp only at h ⊢
   simp only [vwN] at h
   repeat refine St (And.intro (And.intro @gentry.eq_1 <| @gentry.eq_2) <| h) ct9 ?_
   exact AWP.ret (Fin (And.intro @vwN.eq_def <| And.intro @toldT.eq_def <| @List.map_nil.{0, 0}) [] [0, 1, 4])
 have q1 := ne k1
 by_cases k2 : a.k = 2
 · have h := spend_vc l a.c.r (by omega) hlow
   rw [k2]
   rw [if_neg (by decide), if_pos rfl]
   generalize spdV l a.c.r = R at *
   obtain ⟨L, c, e⟩ := R
   dsimp only at h ⊢
   simp only [vwN] at h
   rw [coinT_st] at h
   repeat refine St (And.intro (And.intro @gentry.eq_1 <| @gentry.eq_2) <| h) ct9 ?_
   refine AWP.weak (Weak.trans (Weak.freeze 6) (Weak.thawBx 3 (y := .st [.sq 37 [.st [.st [.ba 32 c.r.h.1, .int .u32 (c.r.i.toNat : Int)], .st [.int .u64 (c.out.val.toNat : Int), .by c.out.scr], .int .u32 (c.ht.toNat : Int), .bool c.first]], .int .i64 e]) rfl rfl)) ?_
   exact AWP.ret (Fin (And.intro @vwN.eq_def <| And.intro @toldT.eq_def <| And.intro @List.map_cons.{0, 0} <| And.intro @List.map_nil.{0, 0} <| @coinT_st) [] [0, 1, 4])
 have q2 := ne k2
 rw [if_neg k1, if_neg k2]
 by_cases k3 : a.k = 3
 · have h := appl_c l a.t a.ht a.first (by omega) hlow
   rw [k3, if_pos rfl]
   generalize appV l a.t a.ht a.first = R at *
   obtain ⟨L, sp, e⟩ := R
   dsimp only at h ⊢
   simp only [vwN] at h
   rw [txT_st] at h
   repeat refine St (And.intro (And.intro @gentry.eq_1 <| @gentry.eq_2) <| h) ct9 ?_
   exact AWP.ret (Fin (And.intro @vwN.eq_def <| @toldT.eq_def) [] [0, 1, 4])
 have q3 := ne k3
 rw [if_neg k3]
 by_cases k4 : a.k = 4
 · have h := revert_c l a.t a.first a.sp ⟨by show l.length ≤ 400000; omega, hlow, by show a.sp.length ≤ 10000; omega, o2, o6⟩
   rw [k4, if_pos rfl]
   generalize revertV l a.t a.first a.sp = R at *
   obtain ⟨L, e⟩ := R
   dsimp only at h ⊢
   simp only [vwN] at h
   rw [txT_st] at h
   repeat refine St (And.intro (And.intro @gentry.eq_1 <| @gentry.eq_2) <| h) ct9 ?_
   exact AWP.ret (Fin (And.intro @vwN.eq_def <| And.intro @toldT.eq_def <| @List.map_nil.{0, 0}) [] [0, 1, 4])
 have q4 := ne k4
 rw [if_neg k4]
 by_cases k5 : a.k = 5
 · have h := vblock_c l a.txs a.ht (by omega) hlow (by omega)
   rw [k5, if_pos rfl]
   generalize blockV l a.txs a.ht = R at *
   obtain ⟨L, sp, e⟩ := R
   dsimp only at h ⊢
   simp only [vwN] at h
   repeat refine St (And.intro (And.intro @gentry.eq_1 <| @gentry.eq_2) <| h) ct9 ?_
   exact AWP.ret (Fin (And.intro @vwN.eq_def <| @toldT.eq_def) [] [0, 1, 4])
 have q5 := ne k5
 rw [if_neg k5]
 by_cases k6 : a.k = 6
 · have h := undo_c l a.txs a.sp ⟨hlen, hlow, by show a.sp.length ≤ 10000; omega, o2, by show a.txs.length ≤ 10000; omega, o5⟩
   rw [k6, if_pos rfl]
   generalize undoV l a.txs a.sp = R at *
   obtain ⟨L, e⟩ := R
   dsimp only at h ⊢
   simp only [vwN] at h
   repeat refine St (And.intro (And.intro @gentry.eq_1 <| @gentry.eq_2) <| h) ct9 ?_
   exact AWP.ret (Fin (And.intro @vwN.eq_def <| And.intro @toldT.eq_def <| @List.map_nil.{0, 0}) [] [0, 1, 4])
 have q6 := ne k6
 rw [if_neg k6]
 dsimp only
 repeat refine St (And.intro (And.intro @gentry.eq_1 <| @gentry.eq_2) <| And.intro q1 <| And.intro q2 <| And.intro q3 <| And.intro q4 <| And.intro q5 <| q6) ct9 ?_
 refine AWP.weak (Weak.moveBx (v' := _) 0 1 [0] 0 _ rfl rfl rfl (by decide) (by simp only [W, eqq, ↓reduceIte, Nat.reduceEqDiff, Nat.reduceLT, Nat.reduceLeDiff, Nat.reduceAdd, Nat.reduceMul, Nat.reduceSub, Nat.reduceBEq, Int.reduceLE, Int.reduceLT, Int.reduceNeg, Int.reduceToNat, Int.reduceEq, Int.reduceBEq, Int.reduceBNe, Nat.reduceBNe, bne_self_eq_false, reduceCtorEq, gt_iff_lt, ge_iff_le]) (by simp only [W, eqq, ↓reduceIte, Nat.reduceEqDiff, Nat.reduceLT, Nat.reduceLeDiff, Nat.reduceAdd, Nat.reduceMul, Nat.reduceSub, Nat.reduceBEq, Int.reduceLE, Int.reduceLT, Int.reduceNeg, Int.reduceToNat, Int.reduceEq, Int.reduceBEq, Int.reduceBNe, Nat.reduceBNe, bne_self_eq_false, reduceCtorEq, gt_iff_lt, ge_iff_le]) (by simp only [W, eqq, ↓reduceIte, Nat.reduceEqDiff, Nat.reduceLT, Nat.reduceLeDiff, Nat.reduceAdd, Nat.reduceMul, Nat.reduceSub, Nat.reduceBEq, Int.reduceLE, Int.reduceLT, Int.reduceNeg, Int.reduceToNat, Int.reduceEq, Int.reduceBEq, Int.reduceBNe, Nat.reduceBNe, bne_self_eq_false, reduceCtorEq, gt_iff_lt, ge_iff_le]; rfl)) ?_
 exact AWP.ret (Fin (And.intro @vwN.eq_def <| And.intro @toldT.eq_def <| @List.map_nil.{0, 0}) [] [0, 1, 4])
theorem do_c (l : List TCoin) (a : VAct) (h : l.length ≤ 300000) (h2 : lowL l = true) (h3 : a.ok) : G9 [.bx (.st [.own 1]), .sq 37 (l.map coinT)] [.ptr 0 0 [], .t (vactT a)] = some (vwN (doV l a).1, .t (toldT (doV l a).2.1 (doV l a).2.2)) := by
 show G9 (vwH l) [.ptr 0 0 [], .t (vactT a)] = _
 simp only [G9, inv_of vwH_inj, inv_of vactT_inj]
 exact if_pos ⟨h, h2, h3⟩
end Go.Fw

end

section
namespace Go.Fw
open Go Go.Proofs
noncomputable def F10 : Fun
 | [w, x] => match inv coinsT w, inv vactT x with
   | some l, some a => @ite _ ((l.length ≤ 300000 ∧ lowL l = true ∧ Srt l ∧ a.ok)) (Classical.propDecidable _) ((some ([], .tup [.t (coinsT (doV l a).1), .t (toldT (doV l a).2.1 (doV l a).2.2)]))) none
   | _, _ => none
 | _ => none
theorem ct10 : CT [(21, ⟨[false, false], treeG F21⟩), (26, ⟨[false, false], treeG F26⟩), (27, ⟨[false, false, false, false], treeG F27⟩), (28, ⟨[false, false, false, false], treeG F28⟩), (29, ⟨[false, false, false], treeG F29⟩), (30, ⟨[false, false, false], treeG F30⟩)] [0, 1, 3, 4, 5, 6, 7, 8, 11, 12, 21, 34, 48, 61, 73] [] := ⟨(.cons c21.g (.cons c26.g (.cons c27.g (.cons c28.g (.cons c29.g (.cons c30.g (.nil _)))))))⟩
set_option maxRecDepth 8000 in
set_option maxHeartbeats 8000000 in
theorem c10 : ACon Tryz.prog 10 F10 := by
 refine aconc E_ok (rs := [.tmp 4 22, .cell 5 51]) Tryz.func10 rfl Tryz.ntmps10 (by kernel_rfl) rfl (by decide) F10 (np := 2) ?_ ?_
 · intro ts h; unfold F10; split <;> first | rfl | (simp at h; done)
 intro ts H r hF hwf
 unfold F10 at hF
 split at hF <;> try (cases hF; done)
 rename_i w x
 split at hF <;> try (cases hF; done)
 rename_i l a hl ha
 split at hF
 case isFalse => cases hF
 rename_i hcc
 cases hF
 obtain ⟨hlen, hlow, hsr, o1, o2, o3, o4, o5, o6⟩ := hcc
 obtain rfl := inv_inv hl
 obtain rfl := inv_inv ha
 rw [vactT_st]
 simp only [coinsT]
 have ne : ∀ {k : Int} {z : Int}, ¬ k = z → (k == z) = false := fun h => by simpa using h
 unfold doV
 by_cases k1 : a.k = 1
 · have h := radd_c l a.c (by omega) hsr
   rw [k1]
   simp only [if_pos]
   rw [coinT_st] at h
   generalize addV l a.c = R at *
   obtain ⟨L, e⟩ := R
   dsimp only at h ⊢
   repeat refine St h ct10 ?_
   exact AWP.ret (Fin (And.intro @toldT.eq_def <| @List.map_nil.{0, 0}) [] [])
 have q1 := ne k1
 by_cases k2 : a.k = 2
 · have h := rspend_c l a.c.r (by omega) hsr
   rw [k2]
   rw [if_neg (by decide), if_pos rfl]
   generalize spdV l a.c.r = R at *
   obtain ⟨L, c, e⟩ := R
   dsimp only at h ⊢
   rw [coinT_st] at h
   repeat refine St h ct10 ?_
   refine AWP.weak (Weak.trans (Weak.freeze 3) (Weak.thawBx 1 (y := .st [.sq 37 [.st [.st [.ba 32 c.r.h.1, .int .u32 (c.r.i.toNat : Int)], .st [.int .u64 (c.out.val.toNat : Int), .by c.out.scr], .int .u32 (c.ht.toNat : Int), .bool c.first]], .int .i64 e]) rfl rfl)) ?_
   exact AWP.ret (Fin (And.intro @toldT.eq_def <| And.intro @List.map_cons.{0, 0} <| And.intro @List.map_nil.{0, 0} <| @coinT_st) [] [])
 have q2 := ne k2
 rw [if_neg k1, if_neg k2]
 by_cases k3 : a.k = 3
 · have h := rapply_c l a.t a.ht a.first (by omega) hsr
   rw [k3, if_pos rfl]
   generalize appV l a.t a.ht a.first = R at *
   obtain ⟨L, sp, e⟩ := R
   dsimp only at h ⊢
   repeat refine St h ct10 ?_
   exact AWP.ret (Fin @toldT.eq_def [] [])
 have q3 := ne k3
 rw [if_neg k3]
 by_cases k4 : a.k = 4
 · have h := rrevert_c l a.t a.first a.sp (by omega) hsr (by omega)
   rw [k4, if_pos rfl]
   generalize revertV l a.t a.first a.sp = R at *
   obtain ⟨L, e⟩ := R
   dsimp only at h ⊢
   repeat refine St h ct10 ?_
   exact AWP.ret (Fin (And.intro @toldT.eq_def <| @List.map_nil.{0, 0}) [] [])
 have q4 := ne k4
 rw [if_neg k4]
 by_cases k5 : a.k = 5
 · have h := rblock_c l a.txs a.ht (by omega) hsr hlow (by omega)
   rw [k5, if_pos rfl]
   generalize blockV l a.txs a.ht = R at *
   obtain ⟨L, sp, e⟩ := R
   dsimp only at h ⊢
   repeat refine St h ct10 ?_
   exact AWP.ret (Fin @toldT.eq_def [] [])
 have q5 := ne k5
 rw [if_neg k5]
 by_cases k6 : a.k = 6
 · have h := rundo_c l a.txs a.sp ⟨hlen, hlow, by show a.sp.length ≤ 10000; omega, o2, by show a.txs.length ≤ 10000; omega, o5⟩ hsr
   rw [k6, if_pos rfl]
   generalize undoV l a.txs a.sp = R at *
   obtain ⟨L, e⟩ := R
   dsimp only at h ⊢
   repeat refine St h ct10 ?_
   exact AWP.ret (Fin (And.intro @toldT.eq_def <| @List.map_nil.{0, 0}) [] [])
 have q6 := ne k6
 rw [if_neg k6]
 dsimp only
 repeat refine St (And.intro q1 <| And.intro q2 <| And.intro q3 <| And.intro q4 <| And.intro q5 <| q6) ct10 ?_
 exact AWP.ret (Fin (And.intro @toldT.eq_def <| @List.map_nil.{0, 0}) [] [])
theorem model_c (l : List TCoin) (a : VAct) (h : l.length ≤ 300000) (h2 : lowL l = true) (h3 : Srt l) (h4 : a.ok) : F10 [.sq 37 (l.map coinT), vactT a] = some ([], .tup [.t (.sq 37 ((doV l a).1.map coinT)), .t (toldT (doV l a).2.1 (doV l a).2.2)]) := by
 show F10 [coinsT l, vactT a] = some ([], .tup [.t (coinsT (doV l a).1), .t (toldT (doV l a).2.1 (doV l a).2.2)])
 simp only [F10, inv_of coinsT_inj, inv_of vactT_inj]
 exact if_pos ⟨h, h2, h3, h4⟩
end Go.Fw

end

section
namespace Go.Fw
open Go Go.Proofs
noncomputable def samesB : List TCoin → List TCoin → Bool
 | [], [] => true
 | a :: x, b :: y => sameC a b && samesB x y
 | _, _ => false
theorem samesB_iff : ∀ a b : List TCoin, samesB a b = true ↔ a = b
 | [], [] => by simp [samesB]
 | [], _ :: _ => by simp [samesB]
 | _ :: _, [] => by simp [samesB]
 | a :: x, b :: y => by simp only [samesB, Bool.and_eq_true, sameC_iff, samesB_iff x y, List.cons.injEq]
theorem samesB_self (a : List TCoin) : samesB a a = true := (samesB_iff a a).2 rfl
theorem samesB_len {a b : List TCoin} (h : a.length ≠ b.length) : samesB a b = false := by
 cases hb : samesB a b with
 | false => rfl
 | true => rw [(samesB_iff a b).1 hb] at h; exact (h rfl).elim
noncomputable def F13 : Fun
 | [x, y] => match inv coinsT x, inv coinsT y with
   | some a, some b => @ite _ ((a.length ≤ 1000000 ∧ b.length ≤ 1000000)) (Classical.propDecidable _) ((some ([], .t (.bool (samesB a b))))) none
   | _, _ => none
 | _ => none
theorem ct13 : CT [(16, ⟨[false, false], treeG F16⟩)] [0, 1, 4, 5, 10, 14, 26] [(6, [⟨0, [0], [], []⟩, ⟨0, [5], [], []⟩, ⟨1, [17, 18], [], []⟩, ⟨1, [19], [2], []⟩, ⟨0, [1], [], []⟩, ⟨0, [5], [], []⟩, ⟨1, [21, 22], [], []⟩, ⟨1, [23], [6], []⟩, ⟨1, [20, 24], [2, 3, 6, 7], []⟩, ⟨0, [25], [2, 3, 6, 7, 8], []⟩])] := ⟨(.cons c16.g (.nil _))⟩
set_option maxHeartbeats 2000000 in
theorem c13 : ACon Tryz.prog 13 F13 := by
 refine aconc E_ok (rs := [.tmp 4 4]) Tryz.func13 rfl Tryz.ntmps13 (by kernel_rfl) rfl (by decide) F13 (np := 2) ?_ ?_
 · intro ts h; unfold F13; split <;> first | rfl | (simp at h; done)
 intro ts H r hF hwf
 unfold F13 at hF
 split at hF <;> try (cases hF; done)
 split at hF <;> try (cases hF; done)
 rename_i a b ha hb
 split at hF
 case isFalse => cases hF
 rename_i hcc
 obtain ⟨hl1, hl2⟩ := hcc
 cases hF
 obtain rfl := inv_inv ha
 obtain rfl := inv_inv hb
 have hma : (a.map coinT).length = a.length := List.length_map ..
 have hmb : (b.map coinT).length = b.length := List.length_map ..
 simp only [coinsT]
 by_cases hne : a.length = b.length
 rotate_left
 · have hq : ((a.length : Int) != (b.length : Int)) = true := by
     rw [bne_iff_ne]; omega
   rw [samesB_len hne]
   repeat refine St (And.intro hma <| And.intro hmb <| hq) ct13 ?_
   exact AWP.ret (Fin trivial [] [])
 have hq : ((a.length : Int) != (b.length : Int)) = false := by
   rw [bne_eq_false_iff_eq]; omega
 obtain ⟨R, hR⟩ : ∃ R, samesB a b = R := ⟨_, rfl⟩
 rw [hR]
 repeat refine St (And.intro hma <| And.intro hmb <| hq) ct13 ?_
 refine AWP.loop (G := { i : Nat // i ≤ a.length ∧ samesB (a.drop i) (b.drop i) = R }) (fun i => ⟨[(0, .t (.sq 37 (a.map coinT))), (1, .t (.sq 37 (b.map coinT))), (5, .t (.int .i64 (i.1 : Int)))], []⟩) (fun i => a.length - i.1) ⟨0, Nat.zero_le _, hR⟩ (Wt trivial [0, 1, 5] []) ?_
 rintro ⟨i, hi, hT⟩
 dsimp only
 by_cases hlt : i < a.length
 · have hlt2 : (i : Int) < (a.length : Int) := by omega
   have hlb : i < b.length := by omega
   have hlb2 : (i : Int) < (b.length : Int) := by omega
   have hw1 : IntKind.i64.wrap ((i : Int) + 1) = ((i + 1 : Nat) : Int) := by rw [wrap_i64 (by omega) (by omega)]; omega
   have hg := coin_getD a i hlt
   have hg2 := coin_getD b i hlb
   have hd1 : a.drop i = a.getD i dCoin :: a.drop (i + 1) := by
     rw [List.drop_eq_getElem_cons hlt]
     simp [List.getD_eq_getElem?_getD, hlt]
   have hd2 : b.drop i = b.getD i dCoin :: b.drop (i + 1) := by
     rw [List.drop_eq_getElem_cons hlb]
     simp [List.getD_eq_getElem?_getD, hlb]
   rw [hd1, hd2, samesB] at hT
   have h1 := same_cc (a.getD i dCoin) (b.getD i dCoin)
   rw [coinT_st, coinT_st] at h1
   rw [coinT_st] at hg hg2
   generalize a.getD i dCoin = c at *
   generalize b.getD i dCoin = d at *
   cases hs : sameC c d with
   | false =>
     rw [hs] at h1
     rw [hs, Bool.false_and] at hT
     subst hT
     repeat refine St (And.intro hlt <| And.intro hlt2 <| And.intro hlb <| And.intro hlb2 <| And.intro hma <| And.intro hmb <| And.intro hw1 <| And.intro hg <| And.intro hg2 <| h1) ct13 ?_
     exact AWP.ret (Fin trivial [] [])
   | true =>
     rw [hs] at h1
     rw [hs, Bool.true_and] at hT
     repeat refine St (And.intro hlt <| And.intro hlt2 <| And.intro hlb <| And.intro hlb2 <| And.intro hma <| And.intro hmb <| And.intro hw1 <| And.intro hg <| And.intro hg2 <| h1) ct13 ?_
     exact ⟨⟨i + 1, by omega, hT⟩, (Wt trivial [0, 1, 5] []), by simp only; omega⟩
 obtain rfl : i = a.length := by omega
 have hlt2 : ¬ (a.length : Int) < (a.length : Int) := by omega
 rw [List.drop_length, List.drop_of_length_le (show b.length ≤ a.length by omega), samesB] at hT
 subst hT
 repeat refine St (And.intro hlt2 <| hma) ct13 ?_
 exact AWP.ret (Fin trivial [] [])
theorem sames_cc (a b : List TCoin) (h : a.length ≤ 1000000) (h2 : b.length ≤ 1000000) : F13 [.sq 37 (a.map coinT), .sq 37 (b.map coinT)] = some ([], .t (.bool (samesB a b))) := by
 show F13 [coinsT a, coinsT b] = _
 simp only [F13, inv_of coinsT_inj]
 exact if_pos ⟨h, h2⟩
end Go.Fw

end

section
namespace Go.Fw
open Go Go.Proofs
theorem undV_ok (nm : TTx → H32) (ts : List TTx) {sp : List TCoin} (hs : lowL sp = true) : ∀ (i : Nat) (l : List TCoin), lowL l = true → lowL (undV nm ts sp i l).1 = true ∧ (undV nm ts sp i l).1.length ≤ l.length + cumN ts i
 | 0, l, h => ⟨h, by simp [undV]⟩
 | i + 1, l, h => by
   obtain ⟨b1, b2⟩ := revV_ok h (ts.getD i dTx) (nm (ts.getD i dTx)) (decide (i = 0)) (lowL_cut hs (cumN ts (i + 1)) (cumN ts i))
   have hc : ((sp.take (cumN ts (i + 1))).drop (cumN ts i)).length ≤ cumN ts (i + 1) - cumN ts i := by
     rw [List.length_drop, List.length_take]; omega
   have hm : cumN ts i ≤ cumN ts (i + 1) := cumN_mono ts (by omega)
   unfold undV
   split
   · exact ⟨b1, by omega⟩
   · obtain ⟨u1, u2⟩ := undV_ok nm ts hs i _ b1
     exact ⟨u1, by omega⟩
theorem undV_srt (nm : TTx → H32) (ts : List TTx) (sp : List TCoin) : ∀ (i : Nat) (l : List TCoin), Srt l → Srt (undV nm ts sp i l).1
 | 0, l, h => h
 | i + 1, l, h => by
   unfold undV
   split
   · exact revV_srt h _ _ _ _
   · exact undV_srt nm ts sp i _ (revV_srt h _ _ _ _)
theorem doV_ok {l : List TCoin} (h : lowL l = true) (hs : Srt l) {a : VAct} (ha : a.ok) : lowL (doV l a).1 = true ∧ Srt (doV l a).1 ∧ (doV l a).1.length ≤ l.length + 1000 ∧ lowL (doV l a).2.1 = true ∧ (doV l a).2.1.length ≤ 1000 := by
 obtain ⟨o1, o2, o3, o4, o5, o6⟩ := ha
 unfold doV
 split
 · obtain ⟨a1, a2⟩ := addV_ok h o1
   exact ⟨a1, addV_srt hs _, by simp only; omega, rfl, by simp⟩
 split
 · obtain ⟨s1, s2, s3⟩ := spdV_ok h a.c.r
   exact ⟨s1, spdV_srt hs _, by simp only; omega, by simp [lowL, s3], by simp⟩
 split
 · obtain ⟨b1, b2, b3, b4⟩ := applyV_ok h a.t (nmH a.t) a.ht a.first
   unfold appV
   dsimp only
   split
   · rename_i he
     exact ⟨b1, applyV_srt hs _ _ _ _ he, by omega, b3, by omega⟩
   · exact ⟨h, hs, by omega, b3, by omega⟩
 split
 · obtain ⟨b1, b2⟩ := revV_ok h a.t (nmH a.t) a.first o2
   have b3 := revV_srt hs a.t (nmH a.t) a.first a.sp
   unfold revertV
   dsimp only
   split
   · exact ⟨b1, b3, by show (revV l a.t (nmH a.t) a.first a.sp).1.length ≤ _; omega, rfl, by simp⟩
   · exact ⟨h, hs, by omega, rfl, by simp⟩
 split
 · obtain ⟨k1, k2, k3, k4⟩ := blkV_ok nmH a.ht a.txs l [] true h rfl
   simp only [List.length_nil, Nat.zero_add] at k4
   have hb : bk1 ⟨l, a.txs, a.ht⟩ = blkV nmH a.ht l a.txs true [] := rfl
   unfold blockV
   rw [hb]
   dsimp only
   split
   · rename_i he
     have h' : blkV nmH a.ht l (a.txs.take a.txs.length) true [] = ((blkV nmH a.ht l a.txs true []).1, (blkV nmH a.ht l a.txs true []).2.1, 0) := by rw [List.take_length, ← he]
     obtain ⟨g1, _⟩ := blk_undo nmH a.ht a.txs hs a.txs.length (Nat.le_refl _) _ _ h'
     exact ⟨k1, g1, by omega, k3, by omega⟩
   · exact ⟨h, hs, by omega, rfl, by simp⟩
 split
 · obtain ⟨u1, u2⟩ := undV_ok nmH a.txs o2 a.txs.length l h
   have u3 := undV_srt nmH a.txs a.sp a.txs.length l hs
   unfold undoV
   split
   · rename_i hf
     dsimp only
     split
     · exact ⟨u1, u3, by show (undV nmH a.txs a.sp a.txs.length l).1.length ≤ _; omega, rfl, by simp⟩
     · exact ⟨h, hs, by omega, rfl, by simp⟩
   · exact ⟨h, hs, by simp only; omega, rfl, by simp⟩
 · exact ⟨h, hs, by simp only; omega, rfl, by simp⟩
theorem small_fewp {ts : List TTx} (h : smallBl ts = true) : ts.length ≤ 8 ∧ ts.all fewIn = true := by
 obtain ⟨h1, h2⟩ := smallBl_ok h
 refine ⟨h1, List.all_eq_true.2 fun t ht => ?_⟩
 obtain ⟨b1, _⟩ := smallT_ok (List.all_eq_true.1 h2 t ht)
 exact decide_eq_true (by omega)
theorem smV_ok {a : VAct} (h : smV a = true) : a.ok := by
 unfold smV at h
 simp only [Bool.and_eq_true] at h
 obtain ⟨⟨⟨h1, h2⟩, h3⟩, h4⟩ := h
 obtain ⟨s1, s2⟩ := okCs_ok h1
 obtain ⟨_, c2⟩ := okCs_ok h2
 obtain ⟨t1, t2⟩ := small_fewp h3
 obtain ⟨_, u2⟩ := small_fewp h4
 refine ⟨by simpa [lowL] using c2, s2, by omega, t1, t2, ?_⟩
 have : fewIn a.t = true := by simpa using u2
 exact of_decide_eq_true this
def act6 (txs : List TTx) (sp : List TCoin) : VAct := ⟨6, dCoin, dTx, txs, 0, false, sp⟩
theorem act6_T (txs : List TTx) (sp : List TCoin) : vactT (act6 txs sp) = .st [.int .i64 6, .st [.st [.ba 32 (zby 32), .int .u32 0], .st [.int .u64 0, .by []], .int .u32 0, .bool false], .st [.int .u32 0, .sq 35 [], .sq 2 [], .int .u32 0], .sq 4 (txs.map txT), .int .u32 0, .bool false, .sq 37 (sp.map coinT)] := rfl
theorem act6_ok {txs : List TTx} {sp : List TCoin} (h1 : lowL sp = true) (h2 : sp.length ≤ 1000) (h3 : txs.length ≤ 8) (h4 : txs.all fewIn = true) : (act6 txs sp).ok := ⟨rfl, h1, h2, h3, h4, Nat.zero_le _⟩
def vactsT (l : List VAct) : T := .sq 46 (l.map vactT)
theorem vactsT_inj (a b : List VAct) (h : vactsT a = vactsT b) : a = b := by
 simp only [vactsT, T.sq.injEq, true_and] at h
 exact map_inj vactT_inj _ _ h
theorem vacts_of {x : T} (h : (Sh.sq 46 shVact).has x) (hw : x.wf) : ∃ a, x = vactsT a := by
 cases x <;> simp only [Sh.has] at h
 obtain ⟨rfl, h⟩ := h
 simp only [T.wf] at hw
 obtain ⟨l, rfl⟩ := list_of (fun x h w => vact_of h w) _ h hw.2.2.2
 exact ⟨l, rfl⟩
theorem acts_getD (l : List VAct) (i : Nat) (h : i < l.length) : (l.map vactT).getD i default = vactT (l.getD i (act6 [] [])) := by simp [h]
noncomputable def F3 : Fun
 | [x, y] => match inv coinsT x, inv vactsT y with
   | some l, some s => some ([], .t (.bool true))
   | _, _ => none
 | _ => none
theorem ct3 : CT [(4, ⟨[false], treeG F4⟩), (5, ⟨[], treeG F5⟩), (6, ⟨[false], treeG F6⟩), (7, ⟨[false], treeG F7⟩), (8, ⟨[false], treeG F8⟩), (9, ⟨[true, false], G9⟩), (10, ⟨[false, false], treeG F10⟩), (11, ⟨[true, false], G11⟩), (12, ⟨[false, false], treeG F12⟩), (13, ⟨[false, false], treeG F13⟩), (14, ⟨[true], G14⟩), (15, ⟨[true], G15⟩), (16, ⟨[false, false], treeG F16⟩)] [0, 1, 4, 5, 6, 7, 8, 9, 10, 11, 12, 13, 14, 15, 16, 17, 18, 21, 42, 44, 54, 63, 66, 84, 144] [] := ⟨(.cons c4.g (.cons c5.g (.cons c6.g (.cons c7.g (.cons c8.g (.cons g9 (.cons c10.g (.cons g11 (.cons c12.g (.cons c13.g (.cons g14 (.cons g15 (.cons c16.g (.nil _))))))))))))))⟩
set_option maxRecDepth 8000 in
set_option maxHeartbeats 16000000 in
theorem c3 : ACon Tryz.prog 3 F3 := by
 refine aconc E_ok (rs := [.tmp 4 4]) Tryz.func3 rfl Tryz.ntmps3 (by kernel_rfl) rfl (by decide) F3 (np := 2) ?_ ?_
 · intro ts h; unfold F3; split <;> first | rfl | (simp at h; done)
 intro ts H r hF hwf
 unfold F3 at hF
 split at hF <;> try (cases hF; done)
 split at hF <;> try (cases hF; done)
 rename_i l s hl hs
 cases hF
 obtain rfl := inv_inv hl
 obtain rfl := inv_inv hs
 have h0 := coins_cc l
 simp only [coinsT, vactsT]
 have hmsc : (s.map vactT).length = s.length := List.length_map ..
 have hg46 : s.length ≤ maxLen := by
   have h1 := hwf (vactsT s) (by simp)
   simp only [vactsT, T.wf] at h1
   simpa using h1.2.1
 unfold maxLen at hg46
 cases hok : okCs l with
 | false =>
   rw [hok] at h0
   repeat refine St (And.intro h0 <| @F5.eq_def) ct3 ?_
   exact AWP.ret (Fin trivial [] [])
 | true =>
 rw [hok] at h0
 obtain ⟨hlen, hlow⟩ := okCs_ok hok
 have hld := load_c l (by omega) hlow
 have hrl := rload_c l (by omega)
 have herr := addsV_err l []
 obtain ⟨ao1, ao2⟩ := addsV_ok l [] rfl hlow
 have asr := addsV_srt l [] Srt.nil
 generalize addsV [] l = A at *
 obtain ⟨L0, e⟩ := A
 dsimp only at herr ao1 ao2 asr
 simp only [List.length_nil, Nat.zero_add] at herr ao2
 by_cases he : e = 0
 rotate_left
 · have e32 : e = 32 := herr.resolve_left (fun h => he h.1)
   subst e32
   rw [show loadR (L0, 32) = ([], .tup [.t .nilp, .t (.int .i64 32)]) from if_neg he] at hld
   rw [show rloadR (L0, 32) = ([], .tup [.t (.sq 37 []), .t (.int .i64 32)]) from if_neg he] at hrl
   repeat refine St (And.intro h0 <| And.intro hld <| And.intro hrl <| @F5.eq_def) ct3 ?_
   exact AWP.ret (Fin trivial [] [])
 subst he
 rw [show loadR (L0, 0) = (vwH L0, .tup [.ptr 0 0 [], .t (.int .i64 0)]) from if_pos rfl] at hld
 rw [show rloadR (L0, 0) = ([], .tup [.t (.sq 37 (L0.map coinT)), .t (.int .i64 0)]) from if_pos rfl] at hrl
 have hd0 : ((0 : Int) != 0) = false := rfl
 have hdd : ((0 : Int) == 0) = true := rfl
 simp only [vwH] at hld
 repeat refine St (And.intro h0 <| And.intro hld <| And.intro hrl <| And.intro hd0 <| hdd) ct3 ?_
 refine AWP.weak (Weak.moveBx (v' := _) 0 1 [0] 0 _ rfl rfl rfl (by decide) (by simp only [W, eqq, ↓reduceIte, Nat.reduceEqDiff, Nat.reduceLT, Nat.reduceLeDiff, Nat.reduceAdd, Nat.reduceMul, Nat.reduceSub, Nat.reduceBEq, Int.reduceLE, Int.reduceLT, Int.reduceNeg, Int.reduceToNat, Int.reduceEq, Int.reduceBEq, Int.reduceBNe, Nat.reduceBNe, bne_self_eq_false, reduceCtorEq, gt_iff_lt, ge_iff_le]) (by simp only [W, eqq, ↓reduceIte, Nat.reduceEqDiff, Nat.reduceLT, Nat.reduceLeDiff, Nat.reduceAdd, Nat.reduceMul, Nat.reduceSub, Nat.reduceBEq, Int.reduceLE, Int.reduceLT, Int.reduceNeg, Int.reduceToNat, Int.reduceEq, Int.reduceBEq, Int.reduceBNe, Nat.reduceBNe, bne_self_eq_false, reduceCtorEq, gt_iff_lt, ge_iff_le]) (by simp only [W, eqq, ↓reduceIte, Nat.reduceEqDiff, Nat.reduceLT, Nat.reduceLeDiff, Nat.reduceAdd, Nat.reduceMul, Nat.reduceSub, Nat.reduceBEq, Int.reduceLE, Int.reduceLT, Int.reduceNeg, Int.reduceToNat, Int.reduceEq, Int.reduceBEq, Int.reduceBNe, Nat.reduceBNe, bne_self_eq_false, reduceCtorEq, gt_iff_lt, ge_iff_le]; rfl)) ?_
 refine AWP.weak (Weak.tyd E 2 48 rfl) ?_
 refine AWP.loop (G := { x : Nat × List TCoin × VAct // x.1 ≤ s.length ∧ x.1 ≤ 20 ∧ x.2.1.length ≤ 40 + 1000 * x.1 ∧ lowL x.2.1 = true ∧ Srt x.2.1 ∧ x.2.2.ok }) (fun x => ⟨[(1, .t (.sq 46 (s.map vactT))), (5, .ptr 0 0 []), (7, .t (.sq 37 (x.1.2.1.map coinT))), (9, .ptr 2 0 []), (10, .t (.int .i64 (x.1.1 : Int)))], [.bx (.st [.own 3]), .no, .bx (.t (vactT x.1.2.2)), .sq 37 (x.1.2.1.map coinT)]⟩) (fun x => s.length - x.1.1) ⟨⟨0, L0, act6 [] []⟩, Nat.zero_le _, Nat.zero_le _, by show L0.length ≤ 40 + 1000 * 0; omega, ao1, asr, act6_ok rfl (by simp) (by simp) rfl⟩ (Wt (And.intro @act6_T <| @List.map_nil.{0, 0}) [1, 5, 7, 9, 10] [0, 1, 2, 3]) ?_
 rintro ⟨⟨i, L, la⟩, hi, hi20, hL, hLl, hLs, hla⟩
 dsimp only at hi hi20 hL hLl hLs hla ⊢
 clear hld hrl hlow hok h0 herr ao1 ao2 asr
 by_cases hlt : i < s.length
 rotate_left
 · have hlt2 : ¬ (i : Int) < (s.length : Int) := by omega
   repeat refine St (And.intro hlt2 <| And.intro hmsc <| @F5.eq_def) ct3 ?_
   exact AWP.ret (Fin trivial [] [])
 have hlt2 : (i : Int) < (s.length : Int) := by omega
 by_cases h20 : i < 20
 rotate_left
 · have h202 : ¬ (i : Int) < 20 := by omega
   repeat refine St (And.intro hlt2 <| And.intro hmsc <| And.intro h202 <| @F5.eq_def) ct3 ?_
   exact AWP.ret (Fin trivial [] [])
 have h202 : (i : Int) < 20 := by omega
 have hw1 : IntKind.i64.wrap ((i : Int) + 1) = ((i + 1 : Nat) : Int) := by rw [wrap_i64 (by omega) (by omega)]; omega
 have hg := acts_getD s i hlt
 generalize s.getD i (act6 [] []) = a at *
 have hsm := small_cc a
 rw [vactT_st a] at hg hsm
 cases hsk : smV a with
 | false =>
   rw [hsk] at hsm
   repeat refine St (And.intro hlt <| And.intro hlt2 <| And.intro hmsc <| And.intro h202 <| And.intro hg <| And.intro hsm <| hw1) ct3 ?_
   exact ⟨⟨⟨i + 1, L, la⟩, by show i + 1 ≤ s.length; omega, by show i + 1 ≤ 20; omega, by show L.length ≤ 40 + 1000 * (i + 1); omega, hLl, hLs, hla⟩, (Wt trivial [1, 5, 7, 9, 10] [0, 1, 2, 3]), by simp only; omega⟩
 | true =>
 rw [hsk] at hsm
 have hao := smV_ok hsk
 obtain ⟨b, hb⟩ : ∃ b, b = if a.k = 7 then la else a := ⟨_, rfl⟩
 have hbo : b.ok := by rw [hb]; split <;> assumption
 repeat refine St (And.intro hlt <| And.intro hlt2 <| And.intro hmsc <| And.intro h202 <| And.intro hg <| hsm) ct3 ?_
 refine AWP.cut2 (G := Unit) (fun _ => ⟨[(1, .t (.sq 46 (s.map vactT))), (5, .ptr 0 0 []), (7, .t (.sq 37 (L.map coinT))), (9, .ptr 2 0 []), (10, .t (.int .i64 (i : Int))), (11, .ptr 4 0 [])], [.bx (.st [.own 3]), .no, .bx (.t (vactT la)), .sq 37 (L.map coinT), .bx (.t (vactT b))]⟩) ?_ ?_
 · by_cases k7 : a.k = 7
   · have q7 : (a.k == 7) = true := by simpa using k7
     rw [if_pos k7] at hb
     subst hb
     rw [vactT_st b]
     repeat refine St q7 ct3 ?_
     exact ⟨(), (Wt trivial [1, 5, 7, 9, 10, 11] [0, 1, 2, 3, 4])⟩
   · have q7 : (a.k == 7) = false := by simpa using k7
     rw [if_neg k7] at hb
     subst hb
     rw [vactT_st b]
     repeat refine St q7 ct3 ?_
     exact ⟨(), (Wt trivial [1, 5, 7, 9, 10, 11] [0, 1, 2, 3, 4])⟩
 intro _
 try dsimp only
 clear hg hsm hsk hao hb
 have hdo := do_c L b (by omega) hLl hbo
 have hmo := model_c L b (by omega) hLl hLs hbo
 obtain ⟨d1, d2, d3, d4, d5⟩ := doV_ok hLl hLs hbo
 generalize doV L b = D at *
 obtain ⟨L', tl, e⟩ := D
 dsimp only at hdo hmo d1 d2 d3 d4 d5
 simp only [vwN, toldT] at hdo hmo
 rw [vactT_st b] at hdo hmo ⊢
 iterate 4 (try refine St (And.intro hdo <| hmo) ct3 ?_)
 obtain ⟨lb, hlb⟩ : ∃ lb, lb = @ite _ (b.k = 5 ∧ e = 0) (Classical.propDecidable _) (act6 b.txs tl) la := ⟨_, rfl⟩
 have hlo : lb.ok := by
   rw [hlb]
   split
   · obtain ⟨o1, o2, o3, o4, o5, o6⟩ := hbo
     exact act6_ok d4 d5 o4 o5
   · exact hla
 refine AWP.cut (G := Unit) (fun _ => ⟨[(1, .t (.sq 46 (s.map vactT))), (5, .ptr 0 0 []), (9, .ptr 2 0 []), (10, .t (.int .i64 (i : Int))), (11, .ptr 4 0 []), (12, .ptr 5 0 []), (13, .t (.sq 37 (L'.map coinT))), (14, .ptr 6 0 [])], [.bx (.st [.own 3]), .no, .bx (.t (vactT lb)), .sq 37 (L'.map coinT), .bx (.t (vactT b)), .bx (.t (.st [.sq 37 (tl.map coinT), .int .i64 e])), .bx (.t (.st [.sq 37 (tl.map coinT), .int .i64 e]))]⟩) ?_ ?_
 · rw [vactT_st b]
   by_cases k5 : b.k = 5
   · have q5 : (b.k == 5) = true := by simpa using k5
     by_cases he : e = 0
     · rw [if_pos ⟨k5, he⟩] at hlb
       subst hlb he
       rw [vactT_st la]
       have hdd : ((0 : Int) == 0) = true := rfl
       repeat refine St (And.intro q5 <| hdd) ct3 ?_
       exact ⟨(), Weak.trans (Weak.tyd E 2 48 rfl) (Wt @act6_T [1, 5, 9, 10, 11, 12, 13, 14] [0, 1, 2, 5, 4, 6, 7])⟩
     · have q0 : (e == 0) = false := by simpa using he
       rw [if_neg (fun h => he h.2)] at hlb
       subst hlb
       repeat refine St (And.intro q5 <| q0) ct3 ?_
       exact ⟨(), (Wt trivial [1, 5, 9, 10, 11, 12, 13, 14] [0, 1, 2, 5, 4, 6, 7])⟩
   · have q5 : (b.k == 5) = false := by simpa using k5
     rw [if_neg (fun h => k5 h.1)] at hlb
     subst hlb
     repeat refine St q5 ct3 ?_
     exact ⟨(), (Wt trivial [1, 5, 9, 10, 11, 12, 13, 14] [0, 1, 2, 5, 4, 6, 7])⟩
 intro _
 try dsimp only
 rw [vactT_st b]
 have hgt := get_c L' b.c.r (by omega) d1
 have hrg := rget_c L' b.c.r (by omega) d2
 have hli := list_c L' (by omega) d1
 have hln : G15 [.bx (.st [.own 1]), .sq 37 (L'.map coinT)] [.ptr 0 0 []] = some ([.bx (.st [.own 1]), .sq 37 (L'.map coinT)], .t (.int .i64 (L'.length : Int))) := by
   show G15 (vwH L') _ = _
   simp only [G15, inv_of vwH_inj]
   rfl
 have hst := sames_cc tl tl (by omega) (by omega)
 have hsl := sames_cc L' L' (by omega) (by omega)
 rw [samesB_self] at hst hsl
 have hse := same_cc (getC L' b.c.r) (getC L' b.c.r)
 rw [sameC_self] at hse
 have hmL : (L'.map coinT).length = L'.length := List.length_map ..
 have hbb : ∀ x : Bool, (x != x) = false := fun x => by cases x <;> rfl
 have hee : (e != e) = false := by simp
 have hll : ((L'.length : Int) != (L'.length : Int)) = false := by simp
 simp only [vwH, List.cons_append, List.nil_append] at hgt hli
 rw [coinT_st] at hgt hrg hse
 clear hdo hmo hlb
 generalize getC L' b.c.r = gc at *
 generalize plB L' b.c.r = gb at *
 repeat refine St (And.intro hgt <| And.intro hrg <| And.intro hli <| And.intro hln <| And.intro hst <| And.intro hsl <| And.intro hse <| And.intro hmL <| And.intro hbb <| And.intro hee <| And.intro hll <| hw1) ct3 ?_
 exact ⟨⟨⟨i + 1, L', lb⟩, by show i + 1 ≤ s.length; omega, by show i + 1 ≤ 20; omega, by show L'.length ≤ 40 + 1000 * (i + 1); omega, d1, d2, hlo⟩, (Wt trivial [1, 5, 7, 9, 10] [0, 1, 2, 3]), by simp only; omega⟩
theorem vplays_c (l : List TCoin) (s : List VAct) : F3 [coinsT l, vactsT s] = some ([], .t (.bool true)) := by
 simp only [F3, inv_of coinsT_inj, inv_of vactsT_inj]
end Go.Fw

end
