/- The abstract machine, and the contracts of the code: part 17. -/
import Derived.Test.YtchljppcenckaaaFwN

section
/- Rules in the form in which they are used. -/
namespace Go.Fw
set_option linter.unusedVariables false
set_option linter.unusedSimpArgs false
open Go

section
variable {kp : Nat}

def aopsP (E : Env) (cl : Calls?) (N : Nat) (keep : List Nat) (ops : List Oper) (S : AS) : Option AS :=
  match aops E cl N ops ops S with
  | some S' => some ⟨prune keep S'.s, S'.H⟩
  | none => none

theorem aopsP_ok {E : Env} {cl : Calls?} {N : Nat} {keep : List Nat} {ops : List Oper} {S S' : AS} (h : aopsP E cl N keep ops S = some S') : ∃ S1, aops E cl N ops ops S = some S1 ∧ S' = ⟨prune keep S1.s, S1.H⟩ := by
  unfold aopsP at h
  split at h
  · rename_i S1 h1; cases h; exact ⟨S1, h1, rfl⟩
  · cases h

theorem AWP.reg {P : Program} {E : Env} (hE : EnvOk P E) (hB : ByteOk E) {cl : Calls?} (hcl : ClOk P cl) (keep : List Nat) {N id : Nat} {l : List Oper} {Q : Exit → AS → Prop} {S S' : AS}
    (h : aopsP E cl N keep l S = some S') (hQ : Q .normal S') : AWP kp P N (.region id l.toArray false) Q S := by
  obtain ⟨S1, h1, rfl⟩ := aopsP_ok h
  exact AWP.region hE hB hcl keep (by simpa using h1) hQ

theorem AWP.seqR {P : Program} {E : Env} (hE : EnvOk P E) (hB : ByteOk E) {cl : Calls?} (hcl : ClOk P cl) (keep : List Nat) {N id : Nat} {l : List Oper} {y : Code} {Q : Exit → AS → Prop} {S S' : AS}
    (h : aopsP E cl N keep l S = some S') (hQ : AWP kp P N y Q S') : AWP kp P N (.seq (.region id l.toArray false) y) Q S :=
  AWP.seq (AWP.reg hE hB hcl keep h hQ)

theorem AWP.condT {P : Program} {N : Nat} {cd : Operand} {x y : Code} {Q : Exit → AS → Prop} {S : AS} (hc : ev S.s cd = .t (.bool true)) (ht : AWP kp P N x Q S) : AWP kp P N (.cond cd x y) Q S :=
  AWP.cond hc (fun _ => ht) (fun h => by cases h)
theorem AWP.condF {P : Program} {N : Nat} {cd : Operand} {x y : Code} {Q : Exit → AS → Prop} {S : AS} (hc : ev S.s cd = .t (.bool false)) (hf : AWP kp P N y Q S) : AWP kp P N (.cond cd x y) Q S :=
  AWP.cond hc (fun h => by cases h) (fun _ => hf)
theorem AWP.condD {P : Program} {N : Nat} {cd : Operand} {x y : Code} {Q : Exit → AS → Prop} {S : AS} {p : Prop} [Decidable p] (hc : ev S.s cd = .t (.bool (decide p))) (ht : p → AWP kp P N x Q S) (hf : ¬ p → AWP kp P N y Q S) :
    AWP kp P N (.cond cd x y) Q S := AWP.cond hc (fun h => ht (of_decide_eq_true h)) (fun h => hf (of_decide_eq_false h))

theorem shr8 : (2 : Int) ^ (min 8 IntKind.u64.bits) = 256 := by decide

theorem wrap_u64 {n : Int} (h1 : 0 ≤ n) (h2 : n ≤ 18446744073709551615) : IntKind.u64.wrap n = n := by
  simp only [IntKind.wrap, IntKind.signed, IntKind.bits]; simp; omega

def byteOf (n : Int) : UInt8 := UInt8.ofNat n.toNat

end

end Go.Fw

end
