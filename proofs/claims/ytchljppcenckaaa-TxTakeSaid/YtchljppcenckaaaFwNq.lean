/- The abstract machine, and the contracts of the code: part 45. -/
import Derived.Test.YtchljppcenckaaaFwZ

section
/- A slice compared with nil: whether it is nil, nobody tells. -/
namespace Go.Fw
set_option linter.unusedVariables false
set_option linter.unusedSimpArgs false
open Go

theorem by_slice {M : Nat → Option Obj} {l : List UInt8} {v : Value} (h : RelT M (.by l) v) : ∃ a n k, v = .slice a n k ∧ (a = none → l = []) := by
  cases h with
  | byn => exact ⟨_, _, _, rfl, fun _ => rfl⟩
  | «by» hM hl hm hc => exact ⟨_, _, _, rfl, fun h => by cases h⟩

theorem run_sl_nil {P : Program} {w : World} {t e : TypeId} (ht : P.underlying t = some (.slice e)) (a : Option Addr) (n k : Nat) (x y : Operand) :
    ((do eqGuard .eql t x y (.slice a n k) (.slice none 0 0); binOp .eql t (.slice a n k) (.slice none 0 0)) : Sem Value).run P w = .ok (.bool a.isNone) w := by
  have key : ∀ d, (Op.equalIn (d + 1) t (.slice a n k) (.slice none 0 0)).run P w = .ok a.isNone w := by
    intro d
    cases a <;> simp [Op.equalIn, run_underlying ht]
  have h1 : (Op.equal t (.slice a n k) (.slice none 0 0)).run P w = .ok a.isNone w := key 9999
  simp [eqGuard, binOp, h1]

theorem gops_then {P : Program} {E : Env} {q : List TypeId} (hX : XOk P E q) {gl : GCalls} (hcl : GClOk P gl) {c : Ctx} {N : Nat} {ops : Array Oper} {Q : Exit → Act → World → Prop} (l2 : List Oper) : ∀ (l : List Oper) (S S' : AS) (m : Mem) (w : World) (a : Act),
    gops E q gl N ops.toList l S = some S' → Inv c m w S.H → RelS m N a S.s → (∀ m' w' a', Inv c m' w' S'.H → RelS m' N a' S'.s → wpList P ops Q l2 a' w') → wpList P ops Q (l ++ l2) a w := by
  intro l
  induction l with
  | nil => intro S S' m w a h hi hs hQ; cases h; exact hQ m w a hi hs
  | cons o l ih =>
    intro S S' m w a h hi hs hQ
    simp only [gops] at h
    rw [List.cons_append]
    split at h
    · rename_i hw
      have hw' := wantA_ok hs hw
      split at h
      · rename_i v H' hstep
        split at h
        · rename_i s' hp
          unfold wpList
          rw [if_pos hw']
          refine .inl (gstep_ok hX hcl hi hs hstep _ _ fun m' w' u e1 h1 hu => ?_)
          exact ih _ S' m' w' _ h h1 ((hs.mono e1).puts hu hp) hQ
        · cases h
      · cases h
    · rename_i hw
      have hw' := wantA_ok hs hw
      split at h
      · rename_i s' hp
        unfold wpList
        rw [if_neg (by rw [hw']; simp)]
        exact ih _ S' m w _ h hi (hs.puts .und hp) hQ
      · cases h
    · cases h

/-- A region that ends with a comparison with nil. -/
theorem AWP.gnil {kp : Nat} {P : Program} {E : Env} {q : List TypeId} (hX : XOk P E q) {gl : GCalls} (hcl : GClOk P gl) (keep : List Nat) {N id d j : Nat} {l : List Oper} {o : Oper} {t t' e : TypeId} {b : List UInt8} {Q : Exit → AS → Prop} {S S1 : AS}
    (hop : o.op = .binOp .eql t (.tmp j) (.const (.slice none 0 0)) t') (hd : o.dst = some d) (hdN : d < N) (ht : (E t).ty = .sl e)
    (h : gops E q gl N (l ++ [o]) l S = some S1) (hw : wantA (l ++ [o]) S1.s o = some true) (hsl : lk j S1.s = .t (.by b))
    (hQ : ∀ r : Bool, (r = true → b = []) → Q .normal ⟨prune keep ((d, .t (.bool r)) :: S1.s), S1.H⟩) : AWP kp P N (.region id (l ++ [o]).toArray false) Q S := by
  intro c hc m w a hi hs
  refine wp_region_list ?_
  have e1 : (l ++ [o]).toArray.toList = l ++ [o] := by simp
  rw [e1]
  refine gops_then hX hcl [o] l S S1 m w a (by rw [e1]; exact h) hi hs fun m' w' a' h1 h2 => ?_
  have hw' := wantA_ok (ops := (l ++ [o]).toArray) h2 (by rw [e1]; exact hw)
  unfold wpList
  rw [if_pos hw']
  refine .inl ?_
  have hrel := h2.2.2 j
  rw [hsl] at hrel
  obtain ⟨b0, n, k, hv, hemp⟩ := by_slice hrel.t_inv
  have dd := (hX.env.ty ht (by simp)).1
  simp only [DescOk] at dd
  have hrun := run_sl_nil (P := P) (w := w') dd b0 n k (.tmp j) (.const (.slice none 0 0))
  have hexec : (execOp a'.eval o).run P w' = .ok (.value (.bool b0.isNone)) w' := by
    simp only [execOp, hop]
    have ev1 : a'.eval (.tmp j) = .slice b0 n k := hv
    have ev2 : a'.eval (.const (.slice none 0 0)) = .slice none 0 0 := rfl
    simp only [Sem.run_bind, ev1, ev2] at hrun ⊢
    rw [hrun]; rfl
  unfold Oper.wp
  rw [hexec]
  show wpList P (l ++ [o]).toArray (APost c N Q) [] (a'.put o.dst (.bool b0.isNone)) w'
  refine wpList_nil ?_
  have hp : aputs N o (.t (.bool b0.isNone)) S1.s = some ((d, .t (.bool b0.isNone)) :: S1.s) := by simp only [aputs, hd]; rw [if_pos hdN]
  exact ⟨m', ⟨prune keep ((d, .t (.bool b0.isNone)) :: S1.s), S1.H⟩, h1, (h2.puts (.t .bool) hp).prune keep, hQ _ fun h => hemp (by cases b0 <;> simp_all)⟩

end Go.Fw

end
