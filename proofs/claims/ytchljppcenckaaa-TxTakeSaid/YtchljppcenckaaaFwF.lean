/- The abstract machine, and the contracts of the code: part 7. -/
import Derived.Test.YtchljppcenckaaaFwE

section
/- Operations that make or turn memory. -/
namespace Go.Fw
set_option linter.unusedVariables false
set_option linter.unusedSimpArgs false
open Go

theorem Inv.fresh {c : Ctx} {m : Mem} {w w' : World} {H : List Blk} (h : Inv c m w H) (hos : w'.os = w.os) (htape : w'.tape = w.tape)
    (hout : w'.output = w.output) (hsize : w.heap.size ≤ w'.heap.size) (hblk : ∀ b, b < w.heap.size → w'.heap[b]? = w.heap[b]?)
    {B : Blk} {hd : Value} (hB : BlkOk (m.push hd) w' B hd) (hnew : ∀ b, B.live = true → blk hd = some b → w.heap.size ≤ b) : Inv c (m.push hd) w' (H ++ [B]) :=
  h.put (fun _ => False) hos htape hout hsize (fun b hb _ => hblk b hb) rfl (fun k B hk hl => ⟨hk, fun _ _ h => h⟩) (fun k B hk _ => .inl hk) (fun _ h => h.elim) hB
    (fun b hl hb => .inl (hnew b hl hb))

theorem push_own {m : Mem} {H : List Blk} (hl : m.n = H.length) (hd : Value) : RelA (m.push hd) (.own H.length) hd := by
  have := RelA.own (m := m.push hd) (i := H.length) (by simp [Mem.push, hl])
  have e : (m.push hd).η H.length = hd := by simp [Mem.push, hl]
  rw [e] at this; exact this

theorem push_ptr {m : Mem} {H : List Blk} (hl : m.n = H.length) (b : Nat) : RelA (m.push (.pointer (some ⟨b, 0, none⟩))) (.ptr H.length 0 []) (.pointer (some ⟨b, 0, none⟩)) :=
  .ptr (by simp [Mem.push, hl]) (by simp [Mem.push, hl, blk])

theorem M_fresh {c : Ctx} {m : Mem} {w : World} {H : List Blk} (h : Inv c m w H) {b : Nat} (hb : w.heap.size ≤ b) : m.M b = none := by
  cases e : m.M b with
  | none => rfl
  | some o => have := lt_of_heap (h.imm b o e); omega

theorem RelT.value_cells {M : Nat → Option Obj} {x : T} {v : Value} (h : RelT M x v) : v.cells.size = x.size ∧ ∀ (j : Nat) (c : T), x.cells[j]? = some c → ∃ u, v.cells[j]? = some u ∧ RelT M c u := by
  have leaf : ∀ (y : T) (u : Value), RelT M y u → y.cells = [y] → u.cells = #[u] → y.size = 1 → u.cells.size = y.size ∧ ∀ (j : Nat) (c : T), y.cells[j]? = some c → ∃ t, u.cells[j]? = some t ∧ RelT M c t := by
    intro y u hr h1 h2 h3
    refine ⟨by rw [h2, h3]; rfl, fun j c hj => ?_⟩
    rw [h1] at hj
    have hlt := (List.getElem?_eq_some_iff.1 hj).1
    simp at hlt; subst hlt
    simp at hj; subst hj
    exact ⟨u, by rw [h2]; rfl, hr⟩
  have h0 := h
  cases h with
  | ba hl =>
    refine ⟨by simp [Value.cells, T.size, hl], fun j c hj => ?_⟩
    simp only [T.cells, List.getElem?_map, Option.map_eq_some_iff] at hj
    obtain ⟨d, hd, rfl⟩ := hj
    exact ⟨vu8 d, by simp [Value.cells, hd], RelT_u8 d⟩
  | ar hw ha hr =>
    rename_i n sz xs arr
    refine ⟨by simpa [Value.cells, T.size] using ha, fun j c hj => ?_⟩
    simp only [T.cells] at hj
    have hlen := T.cells_len (.ar n sz xs) hw
    have hlt := (List.getElem?_eq_some_iff.1 hj).1
    simp only [T.cells, T.size] at hlen
    refine ⟨arr.getD j undef, ?_, hr j c hj⟩
    have : j < arr.size := by omega
    simp [Value.cells, this]
  | st hw ha hr =>
    rename_i xs arr
    refine ⟨by simpa [Value.cells, T.size] using ha, fun j c hj => ?_⟩
    simp only [T.cells] at hj
    have hlen := T.cells_len (.st xs) hw
    have hlt := (List.getElem?_eq_some_iff.1 hj).1
    simp only [T.cells, T.size] at hlen
    refine ⟨arr.getD j undef, ?_, hr j c hj⟩
    have : j < arr.size := by omega
    simp [Value.cells, this]
  | op hv =>
    exact leaf _ _ h0 rfl (by clear h0; cases v <;> first | rfl | simp [Value.oneCell'] at hv) rfl
  | _ => exact leaf _ _ h0 rfl rfl rfl

/-- Zeros, so many. -/
def zeros (E : Env) (e : TypeId) (n : Nat) : Blk := if (E e).ty = .int .u8 then .by (List.replicate n 0) else .sq (E e).size (List.replicate n (E e).zero)

theorem cellsL_replicate (x : T) (n : Nat) (hx : x.wf) (j : Nat) (c : T) (h : (T.cellsL (List.replicate n x))[j]? = some c) :
    x.cells[j % x.size]? = some c ∧ j < n * x.size := by
  induction n generalizing j with
  | zero => simp [T.cellsL] at h
  | succ n ih =>
    simp only [List.replicate_succ, T.cellsL] at h
    have hl := T.cells_len x hx
    rcases Nat.lt_or_ge j x.size with hlt | hge
    · rw [List.getElem?_append_left (by omega)] at h
      refine ⟨by rw [Nat.mod_eq_of_lt hlt]; exact h, ?_⟩
      rw [Nat.add_mul]; omega
    · rw [List.getElem?_append_right (by omega), hl] at h
      obtain ⟨h1, h2⟩ := ih _ h
      refine ⟨by rw [Nat.mod_eq_sub_mod hge]; exact h1, ?_⟩
      rw [Nat.add_mul]; omega

theorem wfL_replicate {x : T} (hx : x.wf) (n : Nat) : T.wfL (List.replicate n x) := (T.wfL_iff _).2 fun y hy => by rw [List.eq_of_mem_replicate hy]; exact hx

def zeroRow (z : Value) (n : Nat) : Array Value := (Array.range n).map fun i => z.cells[i % z.cells.size]!

theorem noM_le (M : Nat → Option Obj) : MLe noM M := fun _ _ h => by cases h

theorem zeros_ok {P : Program} {E : Env} {e : TypeId} (he : TyOk P E e) (hu : (E e).ty = .int .u8 → (E e).size = 1 ∧ (E e).zero = .int .u8 0) {m : Mem} {w : World} {b len cap : Nat} {z : Value} {fr : TypeId}
    (hz : ∃ i, P.info? e = some i ∧ i.zero = some z) (hh : w.heap[b]? = some (.cells (zeroRow z (cap * (E e).size)) fr (0, 0))) (hl : len ≤ cap) (hm : cap ≤ maxLen) (hM : m.M b = none) :
    BlkOk m w (zeros E e len) (.slice (some ⟨b, 0, none⟩) len cap) := by
  obtain ⟨i, z', hi, h1, h2, h3, h4, h5, h6⟩ := he.info
  obtain ⟨i', hi', hz'⟩ := hz
  rw [hi] at hi'; cases hi'
  rw [h3] at hz'; cases hz'
  obtain ⟨v1, v2⟩ := h4.value_cells
  unfold zeros
  split
  · rename_i ht
    obtain ⟨hs, hz0⟩ := hu ht
    refine .inr ⟨b, cap, _, fr, by simp, hh, by simp [zeroRow, hs], by simpa using hl, hm, hM, fun j c hj => ?_⟩
    have hlt := (List.getElem?_eq_some_iff.1 hj).1
    simp at hlt
    have hc : c = 0 := by rw [List.getElem?_replicate, if_pos hlt] at hj; exact (Option.some.inj hj).symm
    subst hc
    obtain ⟨u, hu1, hu2⟩ := v2 0 (.int .u8 0) (by rw [hz0]; rfl)
    have hsz : z.cells.size = 1 := by rw [v1, h5, hs]
    have hjc : j < cap * (E e).size := by rw [hs]; omega
    cases hu2
    have : z.cells[0]! = .int .u8 0 := by
      rw [getElem!_def, hu1]
    simp [zeroRow, hjc, hsz, Nat.mod_one, this, vu8]
    exact (Array.getElem?_eq_some_iff.1 hu1).2
  · refine ⟨?_, .inr ⟨b, cap, _, fr, by simp, hh, by simp [zeroRow], by simpa using hl, hm, hM, fun j c hj => ?_⟩⟩
    · simp only [T.wf, List.length_replicate]
      exact ⟨h6, by omega, fun x hx => by rw [List.eq_of_mem_replicate hx, h5], wfL_replicate h4.wf _⟩
    · obtain ⟨g1, g2⟩ := cellsL_replicate _ _ h4.wf j c hj
      obtain ⟨u, hu1, hu2⟩ := v2 _ c g1
      rw [h5] at g1 g2 hu1
      have hjc : j < cap * (E e).size := Nat.lt_of_lt_of_le g2 (Nat.mul_le_mul_right _ hl)
      have hsz : z.cells.size = (E e).size := by rw [v1, h5]
      refine ⟨u, ?_, hu2.mono (noM_le _)⟩
      simp only [zeroRow, Array.getElem?_map, Array.getElem?_range, hjc, if_true, Option.map_some, hsz]
      rw [getElem!_def, hu1]

def aMake (E : Env) (H : List Blk) (t : TypeId) (l c : AV) : Option (AV × List Blk) :=
  match (E t).ty, l, c with
  | .sl e, .t (.int _ a), .t (.int _ b) =>
    if (E e).bytes ≤ 256 ∧ 0 < (E e).size ∧ 0 ≤ a ∧ a ≤ b ∧ b ≤ 549755813888 then some (.own H.length, H ++ [zeros E e a.toNat]) else none
  | _, _, _ => none

/-- Bytes are bytes. -/
def ByteOk (E : Env) : Prop := ∀ e, (E e).ty = .int .u8 → (E e).size = 1 ∧ (E e).zero = .int .u8 0 ∧ (E e).bytes = 1

theorem wrap_i64 {n : Int} (h1 : -9223372036854775808 ≤ n) (h2 : n ≤ 9223372036854775807) : IntKind.i64.wrap n = n := by
  simp only [IntKind.wrap, IntKind.signed, IntKind.bits]; simp; split <;> omega

theorem run_makeSlice {P : Program} {E : Env} {t e : TypeId} (ht : P.underlying t = some (.slice e)) (he : TyOk P E e) {w : World} {k k' : IntKind} {a b : Int}
    (h0 : 0 ≤ a) (h1 : a ≤ b) (h2 : b ≤ 281474976710656) (h3 : b * (E e).bytes ≤ 281474976710656) :
    ∃ z, (∃ i, P.info? e = some i ∧ i.zero = some z) ∧ (Instr.makeSlice t (.int k a) (.int k' b)).run P w =
      .ok (.slice (some ⟨w.heap.size, 0, none⟩) a.toNat b.toNat) (w.alloc (.cells (zeroRow z (b.toNat * (E e).size)) e)) := by
  obtain ⟨i, z, hi, g1, g2, g3, g4, g5, g6⟩ := he.info
  refine ⟨z, ⟨i, hi, g3⟩, ?_⟩
  have wa := wrap_i64 (n := a) (by omega) (by omega)
  have wb := wrap_i64 (n := b) (by omega) (by omega)
  have hb3 : ¬ (281474976710656 : Int) < ((E e).bytes : Int) * b := by rw [Int.mul_comm]; omega
  have hsz := he.sizeOf w
  have n1 : ¬ b < 0 := by omega
  have n2 : ¬ a < 0 := by omega
  have n3 : ¬ b < a := by omega
  simp only [Instr.makeSlice, Sem.run_bind, run_underlying ht, Result.andThen_ok, asInt, asIntOf, Sem.run_pure, typeInfo, run_program, hi, g2, wa, wb]
  by_cases h0 : b.toNat * (E e).size = 0
  · simp [n1, n2, n3, hb3, hsz, zeroValue, typeInfo, hi, g3, newRow, h0, zeroRow]
    rw [show Array.range 0 = #[] from rfl]; simp
  · simp [n1, n2, n3, hb3, hsz, zeroValue, typeInfo, hi, g3, newRow, h0, zeroRow]

theorem aMake_ok {P : Program} {E : Env} (hE : EnvOk P E) (hB : ByteOk E) {c : Ctx} {m : Mem} {w : World} {H : List Blk} (h : Inv c m w H) {t : TypeId} {l cp v : AV} {a b : Value} {H' : List Blk}
    (hl : RelA m l a) (hc : RelA m cp b) (hv : aMake E H t l cp = some (v, H')) :
    ∃ m' w' val, Ext m m' ∧ Inv c m' w' H' ∧ RelA m' v val ∧ (Instr.makeSlice t a b).run P w = .ok val w' := by
  unfold aMake at hv
  split at hv
  · rename_i e k n k' n' ht
    split at hv
    · rename_i hcond
      obtain ⟨cb, c5, c1, c2, cl⟩ := hcond
      have c3 : n' ≤ 281474976710656 := by omega
      have c4 : n' * (E e).bytes ≤ 281474976710656 := by
        have h1 : n' * ((E e).bytes : Int) ≤ n' * 256 := Int.mul_le_mul_of_nonneg_left (by omega) (by omega)
        omega
      cases hv
      have d := (hE.ty ht (by simp)).1
      simp only [DescOk] at d
      obtain ⟨rfl, _⟩ := hl.int_inv
      obtain ⟨rfl, _⟩ := hc.int_inv
      have he := hE.size (t := e) rfl c5
      obtain ⟨z, hz, hrun⟩ := run_makeSlice (w := w) (k := k) (k' := k') d he c1 c2 c3 c4
      refine ⟨_, _, _, Ext.push m _, ?_, push_own h.len _, hrun⟩
      exact h.fresh (w' := w.alloc (.cells (zeroRow z (n'.toNat * (E e).size)) e)) (hd := .slice (some ⟨w.heap.size, 0, none⟩) n.toNat n'.toNat) (B := zeros E e n.toNat)
        rfl rfl rfl (by simp) (fun b hb => heap_alloc_old w _ hb)
        (zeros_ok he (fun hu => ⟨(hB e hu).1, (hB e hu).2.1⟩) hz (heap_alloc_new w _) (by omega) (by unfold maxLen; omega) (M_fresh h (Nat.le_refl _)))
        (fun b _ hb => by cases hb; exact Nat.le_refl _)
    · cases hv
  · cases hv

end Go.Fw

end
