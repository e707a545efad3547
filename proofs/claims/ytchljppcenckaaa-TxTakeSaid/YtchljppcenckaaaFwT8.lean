/- The abstract machine, and the contracts of the code: part 30. -/
import Derived.Test.YtchljppcenckaaaFwT7

section
/- Bytes that are converted to bytes: they are read only from then on. -/
namespace Go.Fw
open Go
set_option linter.unusedVariables false
set_option linter.unusedSimpArgs false

/-- A block that nobody owns any more is read only from now on. -/
theorem Inv.adopt {c : Ctx} {m : Mem} {w : World} {H : List Blk} (h : Inv c m w H) {b : Nat} {o : Obj} (ho : w.heap[b]? = some o) (hM : m.M b = none) (hown : c.w0.heap.size ≤ b ∨ c.O b)
    (hno : ∀ k B, H[k]? = some B → B.live = true → blk (m.η k) ≠ some b) (hpl : plainO o) : ∃ m', Ext m m' ∧ Inv c m' w H ∧ m'.M b = some o := by
  let m' : Mem := { m with M := fun k => if k = b then some o else m.M k }
  have hext : Ext m m' := ⟨fun k o' hk => by
    show (if k = b then some o else m.M k) = some o'
    rw [if_neg (fun e => by rw [e, hM] at hk; cases hk)]; exact hk, Nat.le_refl _, fun _ _ => rfl⟩
  refine ⟨m', hext, ⟨h.len, ?_, h.le.trans hext.M, ?_, ?_, h.own, h.disj, h.os, h.tape, h.output, h.size, h.frame, h.keep⟩, by simp [m']⟩
  · intro k o' hk
    have hk' : (if k = b then some o else m.M k) = some o' := hk
    split at hk'
    · rename_i e; subst e; cases hk'; exact ho
    · exact h.imm k o' hk'
  · intro k o' hk
    have hk' : (if k = b then some o else m.M k) = some o' := hk
    split at hk'
    · rename_i e; subst e
      cases hk'
      exact .inr ⟨hown, hpl⟩
    · exact h.new k o' hk'
  · intro k B hk
    refine (h.ok k B hk).move hext (fun b' hl hb => ?_) (fun _ _ _ => rfl)
    show (if b' = b then some o else m.M b') = none
    rw [if_neg (fun e => by rw [e] at hb; exact hno k B hk hl hb)]
    exact ((h.ok k B hk).at hl hb).1

/-- A row of bytes of the call's own, converted to its own type. -/
def aBB (E : Env) (H : List Blk) (src dst : TypeId) (x : AV) : Option (AV × List Blk) :=
  match x with
  | .own i => match H[i]? with
    | some (.by l) => if src = dst ∧ l.length ≠ 0 then (match (E src).ty with
      | .sl e => if (E e).ty = .int .u8 then some (.t (.by l), H.set i .no) else none
      | _ => none) else none
    | _ => none
  | _ => none

theorem aBB_ok {P : Program} {E : Env} (hE : EnvOk P E) {c : Ctx} {m : Mem} {w : World} {H H' : List Blk} (h : Inv c m w H) {src dst : TypeId} {x v : AV} {a : Value}
    (hx : RelA m x a) (hv : aBB E H src dst x = some (v, H')) :
    ∃ m' w' val, Ext m m' ∧ Inv c m' w' H' ∧ RelA m' v val ∧ (convert src dst a).run P w = .ok val w' := by
  unfold aBB at hv
  split at hv
  case h_2 => cases hv
  rename_i i
  split at hv
  case h_2 => cases hv
  rename_i l hi
  split at hv
  case isFalse => cases hv
  rename_i hc
  obtain ⟨rfl, hl0⟩ := hc
  split at hv
  case h_2 => cases hv
  rename_i e he
  split at hv
  case isFalse => cases hv
  rename_i he8
  cases hv
  have d1 := (hE.ty he (by simp)).1
  have d3 := (hE.ty he8 (by simp)).1
  simp only [DescOk] at d1 d3
  obtain ⟨rfl, hin⟩ := hx.own_inv
  rcases h.ok _ _ hi with ⟨hd, rfl⟩ | ⟨b, cap, cur, te, hd, hh, hs, hl, hm, hM, hcells⟩
  · simp at hl0
  have hblk : blk (m.η i) = some b := by rw [hd]; rfl
  have hown := h.own i _ b hi rfl hblk
  have hshape : w.shape? b = some (te, cur.size) := by simp [World.shape?, hh]
  let w' := w.freeze { block := b, off := cur.size } 1
  have hw' : w' = { w with heap := w.heap.modify b fun
      | .cells c elem (lo, hi) => .cells c elem (if lo == hi then (cur.size, cur.size + 1) else (min lo cur.size, max hi (cur.size + 1)))
      | o => o } := rfl
  have hb' : w'.heap[b]? = some (.cells cur te (cur.size, cur.size + 1)) := by
    rw [hw']
    simp only [Array.getElem?_modify, hh, if_true, Option.map_some]
    rfl
  have hother : ∀ k, m.η i = m.η i → k ≠ b → w'.heap[k]? = w.heap[k]? := by
    intro k _ hk
    rw [hw']
    simp only [Array.getElem?_modify]
    rw [if_neg (fun e => hk e.symm)]
  have h1 : Inv c m w' (H.set i .no) := h.upd (B1 := .no) hi rfl rfl rfl rfl (by rw [hw']; simp) (fun k hk => hother k rfl (fun e => hk (by rw [hblk, e]))) trivial
  have hlt := (List.getElem?_eq_some_iff.1 hi).1
  obtain ⟨m', e1, h2, hM'⟩ := h1.adopt hb' hM hown (fun k B hk hlk hbk => by
    rw [List.getElem?_set] at hk
    split at hk
    · rename_i e2; subst e2; (try rw [if_pos hlt] at hk); cases hk; cases hlk
    · rename_i e2
      exact e2 (h.disj i k _ B b hi hk rfl hlk hblk hbk)) (.inr (Nat.le_refl _))
  refine ⟨m', w', m.η i, e1, h2, ?_, ?_⟩
  · rw [hd]
    exact .t (.by hM' hl hm (by simpa using hcells))
  · rw [hd]
    simp only [convert, Sem.run_bind, run_underlying d1, run_underlying d3, Result.andThen_ok, beq_self_eq_true, markStringish, run_shape, hshape, run_freeze, Sem.run_pure]
    rfl

end Go.Fw

end
