/- The abstract machine, and the contracts of the code: part 20. -/
import Derived.ProofKit
import Derived.OpenShut
import Derived.ShutString
import Derived.ChangeOld
import Derived.Below
import Derived.Deep.Matrix
import Derived.Test.YtchljppcenckaaaFwQ

section
/- From a contract to a law: the arguments as the row tells of them, the frame that the row asks for. -/
namespace Go.Fw
open Go Go.RowKit Go.ChangeShapes Go.WideShapes
set_option linter.unusedVariables false
set_option linter.unusedSimpArgs false

theorem law_walk {P : Program} {f : FuncId} {F : Fun} (h : ACon P f F) {ts : List T} (hF : F ts = some ([], .t (.bool true))) {W : World} {vs : List Value}
    (hl : vs.length = ts.length) (hr : ∀ (i : Nat) (t : T), ts[i]? = some t → ∃ u, vs[i]? = some u ∧ RelT (snap W) t u) :
    Calls P f vs.toArray W fun e W' => e = .returned (.bool true) ∧ Below W.heap.size W W' := by
  refine (h.2 ts [] _ hF (snap W) W vs (fun _ _ h => h) hl hr).mono fun e W' ⟨m', v, he, hi, hv⟩ => ?_
  have hv' := hv.t_inv
  cases hv'
  exact ⟨he, hi.os, hi.tape, hi.output, hi.size, fun k hk => hi.frame k hk (fun h => h)⟩

theorem has_block {P : Program} {W : World} {base : Nat} {t e : TypeId} {a : Addr} {len cap : Nat} (ht : P.underlying t = some (.slice e))
    (hv : Value.okWide P W .any base t (.slice (some a) len cap)) : a.spot = none ∧ ∃ cur ty fr, W.heap[a.block]? = some (.cells cur ty fr) := by
  simp only [Value.okWide, ht, Cell.okWide, Cell.ok] at hv
  obtain ⟨_, _, _, hs, row, cells, hsh, _⟩ := hv
  refine ⟨hs, ?_⟩
  unfold World.shape? at hsh
  split at hsh
  · rename_i c el fr hh; exact ⟨c, el, fr, hh⟩
  · cases hsh

theorem int_of_wf {n : Int} (h : (Lit.int .u8 n).wf = true) : 0 ≤ n ∧ n ≤ 255 := by
  simp only [Lit.wf, IntKind.min, IntKind.max, IntKind.signed, IntKind.bits] at h
  simpa using h

/-- A slice of bytes that came in. -/
theorem arg_bytes {H : Type} {enc : TypeId × Value → H} {P : Program} {W : World} {base : Nat} {t e : TypeId} {v : Value} {d : DataW H} {p : List MemPlace} {held : Bool} (ht : P.underlying t = some (.slice e)) (he : P.underlying e = some (.int .u8)) (hc : P.cellsOf e = 1)
    (hv : Value.okWide P W .any base t v) (hd : DataW.Trod enc P W 0 (fun _ => true) held t v d p) : ∃ l, RelT (snap W) (.by l) v := by
  obtain ⟨a, len, cap, rfl⟩ := okWide_slice ht hv
  obtain ⟨n, hd⟩ := hd
  rcases open_ints ht he hc hd with ⟨hcs, _⟩ | ⟨x, l, c, zs, hcs, _, hl, hm, hz, _, hcell, hwz⟩
  · simp [Value.cells] at hcs
    obtain ⟨rfl, rfl, rfl⟩ := hcs
    exact ⟨[], .byn⟩
  · simp [Value.cells] at hcs
    obtain ⟨rfl, rfl, rfl⟩ := hcs
    obtain ⟨hs, cur, ty, fr, hb⟩ := has_block ht hv
    obtain ⟨b, off, sp⟩ := x
    simp only at hs hb; subst hs
    simp at hz
    refine ⟨(zs.take len).map fun n => UInt8.ofNat n.toNat, ?_⟩
    have hlen : ((zs.take len).map fun n => UInt8.ofNat n.toNat).length = len := by simp; omega
    have := RelT.by (M := snap W) (l := (zs.take len).map fun n => UInt8.ofNat n.toNat) (off := off) (cap := cap) hb (by omega) hm ?_
    · rw [hlen] at this; exact this
    · intro i c hi
      have hil : i < len := by have := (List.getElem?_eq_some_iff.1 hi).1; omega
      have h1 := hcell i (by omega)
      have h2 : W.cell? ((⟨b, off, none⟩ : Addr).add i) = cur[off + i]? := by
        unfold Addr.add
        split
        · rename_i h0; subst h0; simp [World.cell?, hb]
        · simp [World.cell?, hb]
      rw [h2] at h1
      rw [h1]
      rw [List.getElem?_map, List.getElem?_take_of_lt hil] at hi
      have hiz : i < zs.length := by omega
      rw [List.getElem?_eq_getElem hiz] at hi
      simp only [Option.map_some, Option.some.injEq] at hi
      have hg : zs.getD i 0 = zs[i] := by simp [hiz]
      have hw := int_of_wf (hwz zs[i] (List.getElem_mem hiz))
      rw [hg, ← hi]
      simp only [vu8, Option.some.injEq, Value.int.injEq, true_and]
      simp; omega

theorem row_rel {W : World} {A : Option Addr} {L C : Nat} {zs : List Int} (h1 : L ≤ C) (h2 : C ≤ maxLen) (h3 : zs.length = C) (h4 : ∀ n ∈ zs, (Lit.int .u8 n).wf = true) (h5 : A = none → C = 0)
    (h6 : ∀ a', A = some a' → ∀ c, c < C → W.cell? (a'.add c) = some (.int .u8 (zs.getD c 0))) : ∃ l, RelT (snap W) (.by l) (.slice A L C) := by
  rcases Nat.eq_zero_or_pos C with h0 | h0
  · subst h0
    obtain rfl : L = 0 := by omega
    exact ⟨[], .byn⟩
  · cases A with
    | none => have := h5 rfl; omega
    | some a =>
      have hc := h6 a rfl
      have hb : ∃ cur ty fr, W.heap[a.block]? = some (.cells cur ty fr) ∧ a.spot = none := by
        have := hc 0 h0
        simp only [Addr.add, if_true] at this
        unfold World.cell? at this
        split at this
        · rename_i c el fr hh
          split at this
          · cases this
          · rename_i hs; exact ⟨c, el, fr, hh, by simpa using hs⟩
        · cases this
      obtain ⟨cur, ty, fr, hh, hs⟩ := hb
      obtain ⟨b, off, sp⟩ := a
      simp only at hs hh; subst hs
      refine ⟨(zs.take L).map fun n => UInt8.ofNat n.toNat, ?_⟩
      have hlen : ((zs.take L).map fun n => UInt8.ofNat n.toNat).length = L := by simp; omega
      have := RelT.by (M := snap W) (l := (zs.take L).map fun n => UInt8.ofNat n.toNat) (off := off) (cap := C) hh (by omega) h2 ?_
      · rw [hlen] at this; exact this
      · intro i c hi
        have hil : i < L := by have := (List.getElem?_eq_some_iff.1 hi).1; omega
        have h1' := hc i (by omega)
        have h2' : W.cell? ((⟨b, off, none⟩ : Addr).add i) = cur[off + i]? := by
          unfold Addr.add
          split
          · rename_i h0; subst h0; simp [World.cell?, hh]
          · simp [World.cell?, hh]
        rw [h2'] at h1'
        rw [h1']
        rw [List.getElem?_map, List.getElem?_take_of_lt hil] at hi
        have hiz : i < zs.length := by omega
        rw [List.getElem?_eq_getElem hiz] at hi
        simp only [Option.map_some, Option.some.injEq] at hi
        have hg : zs.getD i 0 = zs[i] := by simp [hiz]
        have hw := int_of_wf (h4 zs[i] (List.getElem_mem hiz))
        rw [hg, ← hi]
        simp only [vu8, Option.some.injEq, Value.int.injEq, true_and]
        simp; omega

theorem cellsL_by (l : List (List UInt8)) : T.cellsL (l.map T.by) = l.map T.by := by
  induction l with
  | nil => rfl
  | cons x l ih => simp [T.cellsL, T.cells, ih]

/-- A slice of slices of bytes that came in. -/
theorem arg_rows {H : Type} {enc : TypeId × Value → H} {P : Program} {W : World} {base : Nat} {t e q : TypeId} {v : Value} {d : DataW H} {p : List MemPlace} {held : Bool} (ht : P.underlying t = some (.slice e)) (he : P.underlying e = some (.slice q)) (hq : P.underlying q = some (.int .u8)) (hc : P.cellsOf e = 1) (hc' : P.cellsOf q = 1)
    (hv : Value.okWide P W .any base t v) (hd : DataW.Trod enc P W 0 (fun _ => true) held t v d p) : ∃ l : List (List UInt8), RelT (snap W) (.sq 1 (l.map .by)) v := by
  obtain ⟨a, len, cap, rfl⟩ := okWide_slice ht hv
  obtain ⟨n, hd⟩ := hd
  rcases Deep.open_int_rows ht he hq hc hc' hd with ⟨hcs, _⟩ | ⟨x, l, c, A, L, C, Z, hcs, _, hl, hm, _, hrow⟩
  · simp [Value.cells] at hcs
    obtain ⟨rfl, rfl, rfl⟩ := hcs
    exact ⟨[], .sqn (by omega)⟩
  · simp [Value.cells] at hcs
    obtain ⟨rfl, rfl, rfl⟩ := hcs
    obtain ⟨hs, cur, ty, fr, hb⟩ := has_block ht hv
    obtain ⟨b, off, sp⟩ := x
    simp only at hs hb; subst hs
    have each : ∀ r, ∃ y : List UInt8, r < cap → RelT (snap W) (.by y) (.slice (A r) (L r) (C r)) := by
      intro r
      by_cases hr : r < cap
      · obtain ⟨_, r1, r2, r3, r4, r5, r6⟩ := hrow r hr
        obtain ⟨y, hy⟩ := row_rel r1 r2 r3 r4 r5 (fun a' ha' => (r6 a' ha').2)
        exact ⟨y, fun _ => hy⟩
      · exact ⟨[], fun h => absurd h hr⟩
    let f : Nat → List UInt8 := fun r => Classical.choose (each r)
    have hf : ∀ r, r < cap → RelT (snap W) (.by (f r)) (.slice (A r) (L r) (C r)) := fun r hr => Classical.choose_spec (each r) hr
    refine ⟨(List.range len).map f, ?_⟩
    have hlen : (((List.range len).map f).map T.by).length = len := by simp
    have hget : ∀ i c', (T.cellsL (((List.range len).map f).map T.by))[i]? = some c' → i < len ∧ c' = .by (f i) := by
      intro i c' hi
      rw [cellsL_by] at hi
      have hil := (List.getElem?_eq_some_iff.1 hi).1
      simp at hil
      simp [hil] at hi
      exact ⟨hil, hi.symm⟩
    have := RelT.sq (M := snap W) (sz := 1) (xs := ((List.range len).map f).map T.by) (off := off) (cap := cap) hb
      (by
        simp only [T.wf]
        refine ⟨by omega, by rw [hlen]; omega, fun x hx => ?_, (T.wfL_iff _).2 fun x hx => ?_⟩
        · simp only [List.mem_map] at hx; obtain ⟨y, _, rfl⟩ := hx; rfl
        · simp only [List.mem_map, List.mem_range] at hx; obtain ⟨y, ⟨r, hr, rfl⟩, rfl⟩ := hx; exact (hf r (by omega)).wf)
      (by rw [hlen]; exact hl) hm (fun r => .slice (A r) (L r) (C r))
      (fun i c' hi => by
        obtain ⟨hil, rfl⟩ := hget i c' hi
        have h1 := (hrow i (by omega)).1
        have h2 : W.cell? ((⟨b, off, none⟩ : Addr).add i) = cur[off + i]? := by
          unfold Addr.add
          split
          · rename_i h0; subst h0; simp [World.cell?, hb]
          · simp [World.cell?, hb]
        rw [h2] at h1; exact h1)
      (fun i c' hi => by
        obtain ⟨hil, rfl⟩ := hget i c' hi
        exact hf i (by omega))
    rw [hlen] at this; exact this

theorem arg_int {M : Nat → Option Obj} {k : IntKind} {n : Int} (h : (Lit.int k n).wf = true) : RelT M (.int k n) (.int k n) := by
  refine .int ?_
  simp only [Lit.wf] at h
  simpa [inK] using h

end Go.Fw

end
