/- The abstract machine, and the contracts of the code: part 36. -/
import Derived.Test.YtchljppcenckaaaFwU4

section
/- A slice's literal whose parts are read only, taken as read only: an operation that makes memory, and no block. -/
namespace Go.Fw
set_option linter.unusedVariables false
set_option linter.unusedSimpArgs false
open Go

def sBuild (E : Env) (s : Slots) (t : TypeId) (len : Nat) (parts : List (Nat × Operand)) : Option AV :=
  match allT (parts.map fun p => ev s p.2) with
  | some ys => match (E t).ty with
    | .sl e => if isEnum 0 parts = true ∧ parts.length = len ∧ allSz (E e).size (ys.map fun y => tydT E y e) = true ∧ len ≤ 65536 ∧ 0 < len ∧ 0 < (E e).size ∧ (E e).size ≤ 256 then
        some (.t (.sq (E e).size (ys.map fun y => tydT E y e))) else none
    | _ => none
  | none => none

theorem immVL_trees (H : List Blk) : ∀ ys : List T, immVL H (ys.map .t) = some ys
  | [] => rfl
  | y :: ys => by
    have := immVL_trees H ys
    simp only [List.map_cons, immVL, immV, this]
theorem rowsL_trees : ∀ ys : List T, AV.rowsL (ys.map .t) = []
  | [] => rfl
  | y :: ys => by
    have := rowsL_trees ys
    simp only [List.map_cons, AV.rowsL, AV.rows, this, List.append_nil]

/-- The first blocks alone. -/
theorem Inv.first {c : Ctx} {m m' : Mem} {w w' : World} {H H' : List Blk} (h : Inv c m w H) (h' : Inv c m' w' H') (e : Ext m m') (hp : ∀ (i : Nat) (B : Blk), H[i]? = some B → H'[i]? = some B) :
    ∃ m'', Ext m m'' ∧ m''.M = m'.M ∧ Inv c m'' w' H := by
  have hn : m.n = H.length := h.len
  refine ⟨⟨m'.M, m'.η, H.length⟩, ⟨e.M, by show m.n ≤ H.length; omega, e.η⟩, rfl, ⟨rfl, h'.imm, h'.le, h'.new, fun i B hi => ?_, fun i B b hi hl hb => h'.own i B b (hp i B hi) hl hb, fun i j B B' b hi hj hl hl' hb hb' => h'.disj i j B B' b (hp i B hi) (hp j B' hj) hl hl' hb hb', h'.os, h'.tape, h'.output, h'.size, h'.frame, fun i hi => ?_⟩⟩
  · have hk := h'.ok i B (hp i B hi)
    refine hk.on (w' := w') (m' := ⟨m'.M, m'.η, H.length⟩) (.refl _) (fun k hk => ⟨?_, rfl⟩) (fun b hl hb => ⟨(hk.at hl hb).1, rfl⟩)
    have := h.blk_lt hi k hk
    show k < H.length
    omega
  · have h1 := h.keep i hi
    have h2 := h'.keep i hi
    exact ⟨by show i < H.length; omega, h2.2⟩

theorem sBuild_ok {P : Program} {E : Env} (hE : EnvOk P E) {c : Ctx} {m : Mem} {w : World} {H : List Blk} (h : Inv c m w H) {s : Slots} {ρ : Operand → Value}
    (hs : ∀ x, RelA m (ev s x) (ρ x)) {t : TypeId} {len : Nat} {parts : Array (Nat × Operand)} {v : AV} (hv : sBuild E s t len parts.toList = some v) :
    ∃ m' w' val, Ext m m' ∧ Inv c m' w' H ∧ RelA m' v val ∧ (Instr.buildSlice t len (parts.map fun (i, x) => (i, ρ x))).run P w = .ok val w' := by
  unfold sBuild at hv
  split at hv
  case h_2 => cases hv
  rename_i ys hys
  have hys := allT_ok _ _ hys
  split at hv
  case h_2 => cases hv
  rename_i e ht
  split at hv
  case isFalse => cases hv
  rename_i hc
  cases hv
  have hb : aBuildListG E H s t len parts.toList = some (.own H.length, H ++ [.sq (E e).size (ys.map fun y => tydT E y e)]) := by
    unfold aBuildListG
    simp only [ht]
    rw [hys, rowsL_trees]
    simp only [freezeOnes, immVL_trees]
    exact if_pos hc
  obtain ⟨m1, w1, val, e1, i1, r1, run⟩ := aBuildListG_ok hE h hs hb
  obtain ⟨m2, e2, i2⟩ := freezeOne_ok i1 H.length
  have hf : freezeOne (H ++ [.sq (E e).size (ys.map fun y => tydT E y e)]) H.length = H ++ [.fz (.sq (E e).size (ys.map fun y => tydT E y e))] := by
    unfold freezeOne
    rw [List.getElem?_append_right (Nat.le_refl _)]
    simp
  rw [hf] at i2
  have hr := immV_rel i2 (r1.mono e2) (y := .sq (E e).size (ys.map fun y => tydT E y e)) (by simp [immV, immLeaf, immT, T.isAgg])
  obtain ⟨m3, e3, hM, i3⟩ := h.first i2 (e1.trans e2) (fun i B hi => by rw [List.getElem?_append_left (List.getElem?_eq_some_iff.1 hi).1]; exact hi)
  exact ⟨m3, w1, val, e3, i3, .t (by rw [hM]; exact hr), run⟩

end Go.Fw

end
