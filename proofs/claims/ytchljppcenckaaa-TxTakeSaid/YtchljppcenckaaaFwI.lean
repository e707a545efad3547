/- The abstract machine, and the contracts of the code: part 10. -/
import Derived.Test.YtchljppcenckaaaFwH

section
/- Copy, a store into a row of bytes, a slice literal. -/
namespace Go.Fw
set_option linter.unusedVariables false
set_option linter.unusedSimpArgs false
open Go

theorem Inv.upd {c : Ctx} {m : Mem} {w w' : World} {H : List Blk} (h : Inv c m w H) {i : Nat} {B0 B1 : Blk} (hi : H[i]? = some B0) (hl : B0.live = true) (hos : w'.os = w.os) (htape : w'.tape = w.tape)
    (hout : w'.output = w.output) (hsize : w'.heap.size = w.heap.size) (hblk : ∀ b, blk (m.η i) ≠ some b → w'.heap[b]? = w.heap[b]?) (hB : BlkOk m w' B1 (m.η i)) : Inv c m w' (H.set i B1) := by
  have hat : ∀ k B b, H[k]? = some B → B.live = true → blk (m.η k) = some b → m.M b = none ∧ b < w.heap.size := fun k B b hk hl hb => (h.ok k B hk).at hl hb
  have hlt := (List.getElem?_eq_some_iff.1 hi).1
  have hget : ∀ k B, (H.set i B1)[k]? = some B → (k = i ∧ B = B1) ∨ (k ≠ i ∧ H[k]? = some B) := by
    intro k B hk
    rw [List.getElem?_set] at hk
    split at hk
    · rename_i e; subst e; (try rw [if_pos hlt] at hk); cases hk; exact .inl ⟨rfl, rfl⟩
    · rename_i e; exact .inr ⟨fun h => e h.symm, hk⟩
  have himm : ∀ b o, m.M b = some o → blk (m.η i) ≠ some b := fun b o hb he => by
    have := (hat i B0 b hi hl he).1
    rw [hb] at this; cases this
  refine ⟨by simp [h.len], fun b o hb => by rw [hblk b (himm b o hb)]; exact h.imm b o hb, h.le, h.new, ?_, ?_, ?_, hos.trans h.os, htape.trans h.tape, hout.trans h.output, by rw [hsize]; exact h.size, ?_, h.keep⟩
  · intro k B hk
    rcases hget k B hk with ⟨rfl, rfl⟩ | ⟨hne, hk'⟩
    · exact hB
    · exact (h.ok k B hk').move (.refl m) (fun b hlk hb => (hat k B b hk' hlk hb).1) (fun b hlk hb => hblk b fun he => hne (h.disj k i B B0 b hk' hi hlk hl hb he))
  · intro k B b hk hlk hb
    rcases hget k B hk with ⟨rfl, rfl⟩ | ⟨hne, hk'⟩
    · exact h.own k B0 b hi hl hb
    · exact h.own k B b hk' hlk hb
  · intro j k B B' b hj hk hlj hlk hbj hbk
    rcases hget j B hj with ⟨rfl, rfl⟩ | ⟨hnj, hj'⟩ <;> rcases hget k B' hk with ⟨rfl, rfl⟩ | ⟨hnk, hk'⟩
    · rfl
    · exact h.disj _ k B0 B' b hi hk' hl hlk hbj hbk
    · exact h.disj j _ B B0 b hj' hi hlj hl hbj hbk
    · exact h.disj j k B B' b hj' hk' hlj hlk hbj hbk
  · intro b hb hO
    rw [hblk b fun he => by
      rcases h.own i B0 b hi hl he with h1 | h1
      · omega
      · exact hO h1]
    exact h.frame b hb hO

def aCopy (E : Env) (H : List Blk) (t : TypeId) (x y : AV) : Option (AV × List Blk) :=
  match (E t).ty with
  | .sl e => if (E e).size = 1 then
      match x with
      | .own i => match H[i]? with
        | some (.by l) => match srcT H y with
          | some (.by k) => some (.t (.int .i64 (Nat.min k.length l.length : Nat)), H.set i (.by (k.take (Nat.min k.length l.length) ++ l.drop (Nat.min k.length l.length))))
          | some (.str k) => some (.t (.int .i64 (Nat.min k.length l.length : Nat)), H.set i (.by (k.take (Nat.min k.length l.length) ++ l.drop (Nat.min k.length l.length))))
          | some .nil => some (.t (.int .i64 0), H)
          | _ => none
        | _ => none
      | _ => none
    else none
  | _ => none

theorem min_inK {n m : Nat} (h : n ≤ maxLen) : inK .i64 (Nat.min m n : Nat) := by
  have : Nat.min m n ≤ n := Nat.min_le_right _ _
  unfold maxLen at h; simp only [inK, IntKind.min, IntKind.max, IntKind.signed, IntKind.bits]; simp; omega

/-- The first so many bytes of a byte row, as the model reads them. -/
theorem RelR.firstBytes {P : Program} {M : Nat → Option Obj} {w : World} {k : List UInt8} {u : Value} (h : RelR w M (.by k) u ∨ RelR w M (.str k) u) (n : Nat) (hn : n ≤ k.length) :
    (Builtin.lenOf u).run P w = .ok k.length w ∧ (Builtin.firstCells 1 n u).run P w = .ok ((k.take n).map vu8).toArray w := by
  rcases h with h | h
  · cases h with
    | byn => simp at hn; subst hn; exact ⟨by simp [Builtin.lenOf], by simpa using firstCells_none w _ 1⟩
    | «by» hM hl hm hc =>
      rename_i b off cap cur ty fr
      refine ⟨by simp [Builtin.lenOf], ?_⟩
      simp only [Builtin.firstCells, Nat.mul_one]
      have := run_loadCells_list (P := P) w ⟨b, off, none⟩ ((k.take n).map vu8) (by
        intro j v hj
        simp only [List.getElem?_map, Option.map_eq_some_iff] at hj
        obtain ⟨c, hc', rfl⟩ := hj
        rw [List.getElem?_take] at hc'
        split at hc'
        · rw [addr_add, cell_at hM]; exact hc j c hc'
        · cases hc')
      rw [show ((k.take n).map vu8).length = n by simp; omega] at this
      exact this
  · cases h with
    | str hm =>
      have hsz : (⟨k.toArray⟩ : ByteArray).size = k.length := rfl
      refine ⟨by simp [Builtin.lenOf, hsz], ?_⟩
      simp only [Builtin.firstCells, ByteArray.extract_mk, Sem.run_pure]
      simp
      rfl

theorem aCopy_ok {P : Program} {E : Env} (hE : EnvOk P E) {c : Ctx} {m : Mem} {w : World} {H : List Blk} (h : Inv c m w H) {t u ty : TypeId} {x y v : AV} {a b : Value} {H' : List Blk}
    (hx : RelA m x a) (hy : RelA m y b) (hv : aCopy E H t x y = some (v, H')) :
    ∃ m' w' val, Ext m m' ∧ Inv c m' w' H' ∧ RelA m' v val ∧ (Builtin.copy_ #[t, u] ty #[a, b]).run P w = .ok val w' := by
  unfold aCopy at hv
  split at hv
  case h_2 => cases hv
  rename_i e ht
  have d := (hE.ty ht (by simp)).1
  simp only [DescOk] at d
  split at hv
  case isFalse => cases hv
  rename_i hsz
  have he := hE.size hsz (by omega)
  split at hv
  case h_2 => cases hv
  rename_i i
  obtain ⟨rfl, hin⟩ := hx.own_inv
  split at hv
  case h_2 => cases hv
  rename_i l hB
  have core : ∀ k, (RelR w m.M (.by k) b ∨ RelR w m.M (.str k) b) → ∃ w' val, Inv c m w' (H.set i (.by (k.take (Nat.min k.length l.length) ++ l.drop (Nat.min k.length l.length)))) ∧
      RelA m (.t (.int .i64 (Nat.min k.length l.length : Nat))) val ∧ (Builtin.copy_ #[t, u] ty #[m.η i, b]).run P w = .ok val w' := by
    intro k hk
    obtain ⟨f1, f2⟩ := RelR.firstBytes (P := P) hk (Nat.min k.length l.length) (Nat.min_le_left _ _)
    have hle : Nat.min k.length l.length ≤ l.length := Nat.min_le_right _ _
    have hle' : Nat.min k.length l.length ≤ k.length := Nat.min_le_left _ _
    have hnl : ((k.take (Nat.min k.length l.length)).map vu8).length = Nat.min k.length l.length := by rw [List.length_map, List.length_take]; omega
    rcases h.ok _ _ hB with ⟨hd, rfl⟩ | ⟨g, cap, cur, e', hd, hh, hs, hcap, hmx, hM, hc⟩
    · refine ⟨w, .int .i64 0, ?_, ?_, ?_⟩
      · have : H.set i (Blk.by (k.take (Nat.min k.length ([] : List UInt8).length) ++ ([] : List UInt8).drop (Nat.min k.length ([] : List UInt8).length))) = H := by
          have e0 : Nat.min k.length ([] : List UInt8).length = 0 := Nat.min_zero _
          rw [e0]
          apply List.ext_getElem?
          intro j
          rw [List.getElem?_set]
          split
          · rename_i hj; subst hj; simp [(List.getElem?_eq_some_iff.1 hB).1]; exact (List.getElem?_eq_some_iff.1 hB).2.symm
          · rfl
        rw [this]; exact h
      · have e0 : Nat.min k.length ([] : List UInt8).length = 0 := Nat.min_zero _
        rw [e0]; exact .t (.int (by simp [inK, IntKind.min, IntKind.max, IntKind.signed, IntKind.bits]))
      · have e0 : Nat.min k.length 0 = 0 := Nat.min_zero _
        simp only [List.length_nil, e0] at f2
        simp [Builtin.copy_, run_underlying d, hd, f1, he.sizeOf, hsz, e0, f2, goInt]
    · have hst := run_storeCells_at P g 0 e' ((k.take (Nat.min k.length l.length)).map vu8) 0 cur w hh (by rw [hnl]; omega) (by intro v hv; rw [List.mem_map] at hv; obtain ⟨c, _, rfl⟩ := hv; rfl)
      simp only [Nat.zero_add, List.take_zero, List.nil_append] at hst
      refine ⟨w.setRow g (((k.take (Nat.min k.length l.length)).map vu8) ++ cur.toList.drop ((k.take (Nat.min k.length l.length)).map vu8).length).toArray, .int .i64 (Nat.min k.length l.length : Nat), ?_, .t (.int (min_inK (by omega))), ?_⟩
      rotate_left
      · simp [Builtin.copy_, run_underlying d, hd, f1, he.sizeOf, hsz, f2, goInt, hst, -List.map_take]
      · refine h.upd (w' := w.setRow g _) hB rfl rfl rfl rfl (by simp [World.setRow]) (fun b hb => setRow_other w g b _ (fun he => hb (by rw [hd, he]; rfl))) ?_
        have hlen : (k.take (Nat.min k.length l.length) ++ l.drop (Nat.min k.length l.length)).length = l.length := by rw [List.length_append, List.length_take, List.length_drop]; omega
        refine .inr ⟨g, cap, _, e', by rw [hlen]; exact hd, setRow_heap w g cur _ e' _ hh, ?_, by omega, hmx, hM, ?_⟩
        · simp only [List.size_toArray, List.length_append, hnl, List.length_drop, Array.length_toList]; omega
        · intro j c' hj
          simp only [List.getElem?_toArray]
          rcases Nat.lt_or_ge j (Nat.min k.length l.length) with hlt | hge
          · rw [List.getElem?_append_left (by rw [List.length_take]; omega)] at hj
            rw [List.getElem?_append_left (by rw [hnl]; exact hlt), List.getElem?_map, hj]; rfl
          · rw [List.getElem?_append_right (by rw [List.length_take]; omega)] at hj
            rw [List.getElem?_append_right (by rw [hnl]; exact hge), hnl]
            rw [show (k.take (Nat.min k.length l.length)).length = Nat.min k.length l.length by rw [List.length_take]; omega] at hj
            rw [List.getElem?_drop] at hj ⊢
            rw [show Nat.min k.length l.length + (j - Nat.min k.length l.length) = j by omega] at hj ⊢
            simpa using hc j c' hj
  split at hv
  · rename_i k hk
    cases hv
    obtain ⟨w', val, h1, h2, h3⟩ := core k (.inl (srcT_ok h hy hk (sz := 1) (r := ⟨k.length, 1, k.map u8⟩) (by simp [T.row])))
    exact ⟨m, w', val, .refl m, h1, h2, h3⟩
  · rename_i k hk
    cases hv
    obtain ⟨w', val, h1, h2, h3⟩ := core k (.inr (srcT_ok h hy hk (sz := 1) (r := ⟨k.length, 1, k.map u8⟩) (by simp [T.row])))
    exact ⟨m, w', val, .refl m, h1, h2, h3⟩
  · rename_i hk
    cases hv
    have hb := srcT_ok h hy hk (sz := 1) (r := ⟨0, 1, []⟩) rfl
    cases hb
    refine ⟨m, w, .int .i64 0, .refl m, h, .t (.int (by simp [inK, IntKind.min, IntKind.max, IntKind.signed, IntKind.bits])), ?_⟩
    obtain ⟨a', n', cap', hd⟩ : ∃ a' n' cap', m.η i = .slice a' n' cap' := by
      rcases h.ok _ _ hB with ⟨hd, rfl⟩ | ⟨g, cap, cur, e', hd, _⟩
      · exact ⟨_, _, _, hd⟩
      · exact ⟨_, _, _, hd⟩
    have e0 : Nat.min 0 n' = 0 := Nat.zero_min _
    simp [Builtin.copy_, run_underlying d, hd, Builtin.lenOf, he.sizeOf, Builtin.firstCells, storeCells, goInt, e0]
    cases a' <;> simp
  · cases hv

def aStore (E : Env) (H : List Blk) (t : TypeId) (x v : AV) : Option (List Blk) :=
  match x with
  | .ptr i off [j] => match H[i]? with
    | some (.by l) => match v with
      | .t (.int .u8 n) => if off = j ∧ j < l.length ∧ (E t).size = 1 then some (H.set i (.by (l.set j (UInt8.ofNat n.toNat)))) else none
      | _ => none
    | _ => none
  | _ => none

theorem vu8_ofNat {n : Int} (h : inK .u8 n) : vu8 (UInt8.ofNat n.toNat) = .int .u8 n := by
  simp only [inK, IntKind.min, IntKind.max, IntKind.signed, IntKind.bits] at h
  simp at h
  simp only [vu8, UInt8.toNat_ofNat']
  congr 1
  omega

theorem aStore_ok {P : Program} {E : Env} (hE : EnvOk P E) {c : Ctx} {m : Mem} {w : World} {H : List Blk} (h : Inv c m w H) {t : TypeId} {x v : AV} {a b : Value} {H' : List Blk}
    (hx : RelA m x a) (hb : RelA m v b) (hv : aStore E H t x v = some H') :
    ∃ w', Inv c m w' H' ∧ (Instr.storeAt t a b).run P w = .ok () w' := by
  unfold aStore at hv
  split at hv
  case h_2 => cases hv
  rename_i i off j
  split at hv
  case h_2 => cases hv
  rename_i l hB
  split at hv
  case h_2 => cases hv
  rename_i n
  split at hv
  case isFalse => cases hv
  rename_i hc
  obtain ⟨rfl, hj, hsz⟩ := hc
  cases hv
  obtain ⟨rfl, hn⟩ := hb.int_inv
  obtain ⟨g', rfl, hin, hg'⟩ := hx.ptr_inv
  have he := hE.size hsz (by omega)
  rcases h.ok _ _ hB with ⟨hd, rfl⟩ | ⟨g, cap, cur, e', hd, hh, hs, hcap, hmx, hM, hcc⟩
  · simp at hj
  · rw [hd] at hg'; cases hg'
    have hst := run_storeCells_at P g off e' [.int .u8 n] 0 cur w hh (by simp; omega) (by simp [Value.oneCell'])
    refine ⟨w.setRow g (cur.toList.take (off + 0) ++ [Value.int .u8 n] ++ cur.toList.drop (off + 0 + [Value.int .u8 n].length)).toArray, ?_, by simp [Instr.storeAt, Instr.sureAddr, storeVar, he.sizeOf, hsz, Value.cells, hst]⟩
    refine h.upd (w' := w.setRow g _) hB rfl rfl rfl rfl (by simp [World.setRow]) (fun b hb => setRow_other w g b _ (fun he => hb (by rw [hd, he]; rfl))) ?_
    refine .inr ⟨g, cap, _, e', by rw [List.length_set]; exact hd, setRow_heap w g cur _ e' _ hh, ?_, by rw [List.length_set]; exact hcap, hmx, hM, ?_⟩
    · simp; omega
    · intro k c' hk
      simp only [List.getElem?_toArray, Nat.add_zero, List.length_cons, List.length_nil, Nat.zero_add, List.append_assoc]
      have htl : (cur.toList.take off).length = off := by rw [List.length_take, Array.length_toList]; omega
      rw [List.getElem?_set] at hk
      rcases Nat.lt_trichotomy k off with hlt | heq | hgt
      · rw [if_neg (by omega)] at hk
        rw [List.getElem?_append_left (by omega), List.getElem?_take, if_pos hlt]
        simpa using hcc k c' hk
      · subst heq
        rw [if_pos rfl, if_pos hj] at hk
        cases hk
        rw [List.getElem?_append_right (by omega), htl, Nat.sub_self, vu8_ofNat hn]; rfl
      · rw [if_neg (by omega)] at hk
        rw [List.getElem?_append_right (by omega), htl, List.getElem?_append_right (by simp; omega), List.getElem?_drop]
        rw [show off + 1 + (k - off - [Value.int IntKind.u8 n].length) = k by simp; omega]
        simpa using hcc k c' hk

/-- Parts of a literal of bytes. -/
def byteParts (s : Slots) : List (Nat × Operand) → List UInt8 → Option (List UInt8)
  | [], l => some l
  | (i, x) :: r, l => match ev s x with
    | .t (.int .u8 n) => if i < l.length then byteParts s r (l.set i (UInt8.ofNat n.toNat)) else none
    | _ => none

def aBuildSlice (E : Env) (H : List Blk) (s : Slots) (t : TypeId) (len : Nat) (parts : List (Nat × Operand)) : Option (AV × List Blk) :=
  match (E t).ty with
  | .sl e => if (E e).ty = .int .u8 then
      if len ≤ 65536 then
        match byteParts s parts (List.replicate len 0) with
        | some l => some (.own H.length, H ++ [.by l])
        | none => none
      else none
    else if len = 0 ∧ 0 < (E e).size then
      match parts with
      | [] => some (.own H.length, H ++ [.sq (E e).size []])
      | _ => none
    else none
  | _ => none

theorem byteParts_ok {m : Mem} {s : Slots} {ρ : Operand → Value} (hs : ∀ x, RelA m (ev s x) (ρ x)) : ∀ (parts : List (Nat × Operand)) (l l' : List UInt8), byteParts s parts l = some l' →
    l'.length = l.length ∧ Instr.fill (fun i => some (i * 1, 1)) (l.map vu8).toArray (parts.map fun (i, x) => (i, ρ x)) = some (l'.map vu8).toArray := by
  intro parts
  induction parts with
  | nil => intro l l' h; cases h; simp [Instr.fill]
  | cons p r ih =>
    intro l l' h
    obtain ⟨i, x⟩ := p
    simp only [byteParts] at h
    split at h
    · rename_i n hx
      split at h
      · rename_i hi
        have hr := hs x
        rw [hx] at hr
        obtain ⟨hv, hn⟩ := hr.int_inv
        obtain ⟨h1, h2⟩ := ih _ _ h
        refine ⟨by simpa using h1, ?_⟩
        have hsz : ¬ l.length < i + 1 := by omega
        simp only [List.map_cons, Instr.fill, hv, Value.cells]
        simp [hsz]
        have : ((l.map vu8).toArray.setIfInBounds i (Value.int IntKind.u8 n)) = ((l.set i (UInt8.ofNat n.toNat)).map vu8).toArray := by
          rw [← vu8_ofNat hn]
          simp [List.map_set]
        simp only [Nat.mul_one] at h2
        simp only [List.setIfInBounds_toArray] at this
        rw [this]
        simpa using h2
      · cases h
    · cases h

theorem range_replicate (n : Nat) (z : Value) : (Array.range n).map (fun i => #[z][i % 1]!) = (List.replicate n z).toArray := by
  apply Array.ext_getElem?
  intro i
  simp only [Array.getElem?_map, Array.getElem?_range, List.getElem?_toArray, List.getElem?_replicate]
  split <;> simp [Nat.mod_one]

theorem map_range0 (f : Nat → Value) : (Array.range 0).map f = #[] := by
  apply Array.eq_empty_of_size_eq_zero; simp

theorem aBuildSlice_ok {P : Program} {E : Env} (hE : EnvOk P E) (hBy : ByteOk E) {c : Ctx} {m : Mem} {w : World} {H : List Blk} (h : Inv c m w H) {s : Slots} {ρ : Operand → Value}
    (hs : ∀ x, RelA m (ev s x) (ρ x)) {t : TypeId} {len : Nat} {parts : Array (Nat × Operand)} {v : AV} {H' : List Blk} (hv : aBuildSlice E H s t len parts.toList = some (v, H')) :
    ∃ m' w' val, Ext m m' ∧ Inv c m' w' H' ∧ RelA m' v val ∧ (Instr.buildSlice t len (parts.map fun (i, x) => (i, ρ x))).run P w = .ok val w' := by
  unfold aBuildSlice at hv
  split at hv
  case h_2 => cases hv
  rename_i e ht
  have d := (hE.ty ht (by simp)).1
  simp only [DescOk] at d
  have newb : ∀ (l : List Value) (B : Blk), BlkOk (m.push (.slice (some ⟨w.heap.size, 0, none⟩) len len)) (w.alloc (.cells l.toArray e)) B (.slice (some ⟨w.heap.size, 0, none⟩) len len) →
      Inv c (m.push (.slice (some ⟨w.heap.size, 0, none⟩) len len)) (w.alloc (.cells l.toArray e)) (H ++ [B]) := fun l B hB =>
    h.fresh (w' := w.alloc (.cells l.toArray e)) rfl rfl rfl (by simp) (fun b hb => heap_alloc_old w _ hb) hB (fun b _ hb => by cases hb; exact Nat.le_refl _)
  split at hv
  · rename_i hu
    obtain ⟨hsz, hz, _⟩ := hBy e hu
    have he := hE.size hsz (by omega)
    split at hv
    case isFalse => cases hv
    rename_i hlen
    split at hv
    case h_2 => cases hv
    rename_i l hl
    cases hv
    obtain ⟨i, z, hi, g1, g2, g3, g4, g5, g6⟩ := he.info
    rw [hz] at g4
    have hzv : z = .int .u8 0 := by cases g4; rfl
    subst hzv
    obtain ⟨p1, p2⟩ := byteParts_ok hs parts.toList _ _ hl
    simp only [List.length_replicate] at p1
    refine ⟨_, _, .slice (some ⟨w.heap.size, 0, none⟩) len len, Ext.push m _, newb (l.map vu8) (.by l) ?_, push_own h.len _, ?_⟩
    · refine .inr ⟨w.heap.size, len, _, e, by rw [p1], heap_alloc_new w _, by simp [p1], by omega, by unfold maxLen; omega, M_fresh h (Nat.le_refl _), fun j c' hj => by simp [hj]⟩
    · have hrep : (Array.range (len * 1)).map (fun x => #[Value.int IntKind.u8 0][x % 1]!) = ((List.replicate len (0 : UInt8)).map vu8).toArray := by
        rw [Nat.mul_one, range_replicate]; simp [vu8]
      have hpm : (parts.map fun (i, x) => (i, ρ x)).toList = parts.toList.map fun (i, x) => (i, ρ x) := by simp
      simp only [Instr.buildSlice, Sem.run_bind, run_underlying d, he.sizeOf, hsz, Result.andThen_ok]
      rw [if_neg (by omega)]
      by_cases h0 : len * 1 = 0
      · have h00 : len = 0 := by omega
        subst h00
        simp only [List.replicate_zero, List.map_nil] at p2
        simp only [h0, if_true, Sem.run_bind, Sem.run_pure, Result.andThen_ok, hpm, newRow]
        rw [map_range0, p2]
        simp
      · have p2' := p2
        rw [← hrep] at p2'
        simp only [h0, if_false, Sem.run_bind, Sem.run_pure, Result.andThen_ok, zeroValue, typeInfo, run_program, hi, g3, Value.cells, hpm, newRow, List.size_toArray, List.length_cons, List.length_nil, Nat.zero_add]
        rw [p2']
        simp
  · split at hv
    case isFalse => cases hv
    rename_i hc
    obtain ⟨rfl, hpos⟩ := hc
    split at hv
    case h_2 => cases hv
    rename_i hp
    cases hv
    have he := hE.size (t := e) rfl hpos
    obtain rfl : parts = #[] := by cases parts; simp_all
    refine ⟨_, _, .slice (some ⟨w.heap.size, 0, none⟩) 0 0, Ext.push m _, newb [] (.sq (E e).size []) ?_, push_own h.len _, ?_⟩
    · exact ⟨by simp [T.wf, hpos, T.wfL], .inr ⟨w.heap.size, 0, _, e, rfl, heap_alloc_new w _, by simp, by simp, by simp, M_fresh h (Nat.le_refl _), fun j c' hj => by simp [T.cellsL] at hj⟩⟩
    · simp [Instr.buildSlice, run_underlying d, he.sizeOf, Instr.fill, newRow, map_range0]

end Go.Fw

end
