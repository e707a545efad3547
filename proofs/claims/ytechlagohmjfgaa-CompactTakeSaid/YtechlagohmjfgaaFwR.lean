/- From a contract to a law: the arguments as the row tells of them, the frame that the row asks for. -/
import Derived.Test.YtechlagohmjfgaaFwQ
import Derived.ProofKit
import Derived.OpenShut
import Derived.ShutString
import Derived.ChangeOld
import Derived.Below
namespace Go.Fw
open Go Go.RowKit Go.ChangeShapes Go.WideShapes
set_option linter.unusedVariables false
set_option linter.unusedSimpArgs false

theorem law_walk {P : Program} {f : FuncId} {F : Fun} (h : ACon P f F) {ts : List T} (hF : F ts = some ([], .t (.bool true))) {W : World} {vs : List Value}
    (hl : vs.length = ts.length) (hr : ∀ (i : Nat) (t : T), ts[i]? = some t → ∃ u, vs[i]? = some u ∧ RelT (snap W) t u) :
    Calls P f vs.toArray W fun e W' => e = .returned (.bool true) ∧ Below W.heap.size W W' := by
  refine (h.2 ts [] _ hF (snap W) W vs (fun _ _ h => h) hl hr).mono fun e W' ⟨m', v, he, hi, hv⟩ => ?_
  have hv' := hv.t_inv
  cases hv'
  exact ⟨he, hi.os, hi.tape, hi.output, hi.size, fun k hk => hi.frame k hk (fun h => h)⟩

theorem has_block {P : Program} {W : World} {base : Nat} {t e : TypeId} {a : Addr} {len cap : Nat} (ht : P.underlying t = some (.slice e))
    (hv : Value.okWide P W .any base t (.slice (some a) len cap)) : a.spot = none ∧ ∃ cur ty fr, W.heap[a.block]? = some (.cells cur ty fr) := by
  simp only [Value.okWide, ht, Cell.okWide, Cell.ok] at hv
  obtain ⟨_, _, _, hs, row, cells, hsh, _⟩ := hv
  refine ⟨hs, ?_⟩
  unfold World.shape? at hsh
  split at hsh
  · rename_i c el fr hh; exact ⟨c, el, fr, hh⟩
  · cases hsh

theorem int_of_wf {n : Int} (h : (Lit.int .u8 n).wf = true) : 0 ≤ n ∧ n ≤ 255 := by
  simp only [Lit.wf, IntKind.min, IntKind.max, IntKind.signed, IntKind.bits] at h
  simpa using h

/-- A slice of bytes that came in. -/
theorem arg_bytes {H : Type} {enc : TypeId × Value → H} {P : Program} {W : World} {base : Nat} {t e : TypeId} {v : Value} {d : DataW H} {p : List MemPlace} {held : Bool} (ht : P.underlying t = some (.slice e)) (he : P.underlying e = some (.int .u8)) (hc : P.cellsOf e = 1)
    (hv : Value.okWide P W .any base t v) (hd : DataW.Trod enc P W 0 (fun _ => true) held t v d p) : ∃ l, RelT (snap W) (.by l) v := by
  obtain ⟨a, len, cap, rfl⟩ := okWide_slice ht hv
  obtain ⟨n, hd⟩ := hd
  rcases open_ints ht he hc hd with ⟨hcs, _⟩ | ⟨x, l, c, zs, hcs, _, hl, hm, hz, _, hcell, hwz⟩
  · simp [Value.cells] at hcs
    obtain ⟨rfl, rfl, rfl⟩ := hcs
    exact ⟨[], .byn⟩
  · simp [Value.cells] at hcs
    obtain ⟨rfl, rfl, rfl⟩ := hcs
    obtain ⟨hs, cur, ty, fr, hb⟩ := has_block ht hv
    obtain ⟨b, off, sp⟩ := x
    simp only at hs hb; subst hs
    simp at hz
    refine ⟨(zs.take len).map fun n => UInt8.ofNat n.toNat, ?_⟩
    have hlen : ((zs.take len).map fun n => UInt8.ofNat n.toNat).length = len := by simp; omega
    have := RelT.by (M := snap W) (l := (zs.take len).map fun n => UInt8.ofNat n.toNat) (off := off) (cap := cap) hb (by omega) hm ?_
    · rw [hlen] at this; exact this
    · intro i c hi
      have hil : i < len := by have := (List.getElem?_eq_some_iff.1 hi).1; omega
      have h1 := hcell i (by omega)
      have h2 : W.cell? ((⟨b, off, none⟩ : Addr).add i) = cur[off + i]? := by
        unfold Addr.add
        split
        · rename_i h0; subst h0; simp [World.cell?, hb]
        · simp [World.cell?, hb]
      rw [h2] at h1
      rw [h1]
      rw [List.getElem?_map, List.getElem?_take_of_lt hil] at hi
      have hiz : i < zs.length := by omega
      rw [List.getElem?_eq_getElem hiz] at hi
      simp only [Option.map_some, Option.some.injEq] at hi
      have hg : zs.getD i 0 = zs[i] := by simp [hiz]
      have hw := int_of_wf (hwz zs[i] (List.getElem_mem hiz))
      rw [hg, ← hi]
      simp only [vu8, Option.some.injEq, Value.int.injEq, true_and]
      simp; omega

theorem arg_int {M : Nat → Option Obj} {k : IntKind} {n : Int} (h : (Lit.int k n).wf = true) : RelT M (.int k n) (.int k n) := by
  refine .int ?_
  simp only [Lit.wf] at h
  simpa [inK] using h

end Go.Fw
