/- The abstract machine, and the contracts of the code: part 49. -/
import Derived.Test.YtchljppcenckaaaFwRd

section
/- Transactions, read off bytes: readings, there and back; the reader that notes its first error. Plain laws. -/
namespace Go.Fw
open Go
set_option linter.unusedVariables false
set_option linter.unusedSimpArgs false

def t32 (b : List UInt8) : UInt32 × List UInt8 × Int := (UInt32.ofNat (num (spA b 4)), spB b 4, spE b 4)
def t64 (b : List UInt8) : UInt64 × List UInt8 × Int := (UInt64.ofNat (num (spA b 8)), spB b 8, spE b 8)
def hOf (l : List UInt8) : H32 := if h : l.length = 32 then ⟨l, h⟩ else zH
def tH (b : List UInt8) : H32 × List UInt8 × Int := (hOf (spA b 32), spB b 32, spE b 32)
def tScr (b : List UInt8) : List UInt8 × List UInt8 × Int := lim b 1000
def tWit (b : List UInt8) : List (List UInt8) × List UInt8 × Int := lst b 30 1000
def tCnt (m : Nat) (b : List UInt8) : Nat × List UInt8 × Int := bnd b m
/-- The document's: what is left stays behind a count that is too large. -/
def tCntD (m : Nat) (b : List UInt8) : Nat × List UInt8 × Int := if (sz b).2.2 = 0 ∧ m < (sz b).1 then (0, (sz b).2.1, 4) else if (sz b).2.2 ≠ 0 then (0, (sz b).2.1, (sz b).2.2) else ((sz b).1, (sz b).2.1, 0)

theorem u32_num (l : List UInt8) (h : l.length ≤ 4) : ((UInt32.ofNat (num l)).toNat : Int) = (num l : Int) := by
  have := num_lt4 l h
  rw [UInt32.toNat_ofNat']; omega
theorem u64_num (l : List UInt8) (h : l.length ≤ 8) : ((UInt64.ofNat (num l)).toNat : Int) = (num l : Int) := by
  have := num_lt8 l h
  rw [UInt64.toNat_ofNat']; omega

theorem codN32 : Cod (ofT t32) (fun x => le 4 (x.toNat : Int)) (fun _ => True) := by
  refine Cod.ofT (fun x r _ => ?_) (fun b h => ⟨trivial, ?_⟩) (fun x k _ hk => ?_)
  · have hl := le_len 4 (x.toNat : Int)
    have a := spA_app (le 4 (x.toNat : Int)) r
    have b := spB_app (le 4 (x.toNat : Int)) r
    have c := spE_app (le 4 (x.toNat : Int)) r
    rw [hl] at a b c
    have hx := x.toNat_lt
    have hn := num_le 4 (x.toNat : Int) (by omega) (by simp; omega)
    have hn' : num (le 4 (x.toNat : Int)) = x.toNat := by omega
    show (UInt32.ofNat (num (spA (le 4 (x.toNat : Int) ++ r) ((4 : Nat) : Int))), spB (le 4 (x.toNat : Int) ++ r) ((4 : Nat) : Int), spE (le 4 (x.toNat : Int) ++ r) ((4 : Nat) : Int)) = (x, r, 0)
    rw [a, b, c, hn']
    exact Prod.ext (UInt32.ofNat_toNat ..) rfl
  · obtain ⟨h1, h2, h3⟩ := sp_ok (b := b) (n := 4) h
    show le 4 ((UInt32.ofNat (num (spA b 4))).toNat : Int) ++ spB b 4 = b
    rw [u32_num _ (by omega)]
    have := le_num (spA b 4)
    rw [show (spA b 4).length = 4 by omega] at this
    rw [this, h2]
  · rw [le_len] at hk
    have : ∀ n : Int, (((le 4 (x.toNat : Int)).take k).length : Int) < n → spE ((le 4 (x.toNat : Int)).take k) n = 2 := fun n h => (sp_cut h).1
    exact this 4 (by simp [le_len]; omega)
theorem codN64 : Cod (ofT t64) (fun x => le 8 (x.toNat : Int)) (fun _ => True) := by
  refine Cod.ofT (fun x r _ => ?_) (fun b h => ⟨trivial, ?_⟩) (fun x k _ hk => ?_)
  · have hl := le_len 8 (x.toNat : Int)
    have a := spA_app (le 8 (x.toNat : Int)) r
    have b := spB_app (le 8 (x.toNat : Int)) r
    have c := spE_app (le 8 (x.toNat : Int)) r
    rw [hl] at a b c
    have hx := x.toNat_lt
    have hn := num_le 8 (x.toNat : Int) (by omega) (by simp; omega)
    have hn' : num (le 8 (x.toNat : Int)) = x.toNat := by omega
    show (UInt64.ofNat (num (spA (le 8 (x.toNat : Int) ++ r) ((8 : Nat) : Int))), spB (le 8 (x.toNat : Int) ++ r) ((8 : Nat) : Int), spE (le 8 (x.toNat : Int) ++ r) ((8 : Nat) : Int)) = (x, r, 0)
    rw [a, b, c, hn']
    exact Prod.ext (UInt64.ofNat_toNat ..) rfl
  · obtain ⟨h1, h2, h3⟩ := sp_ok (b := b) (n := 8) h
    show le 8 ((UInt64.ofNat (num (spA b 8))).toNat : Int) ++ spB b 8 = b
    rw [u64_num _ (by omega)]
    have := le_num (spA b 8)
    rw [show (spA b 8).length = 8 by omega] at this
    rw [this, h2]
  · rw [le_len] at hk
    have : ∀ n : Int, (((le 8 (x.toNat : Int)).take k).length : Int) < n → spE ((le 8 (x.toNat : Int)).take k) n = 2 := fun n h => (sp_cut h).1
    exact this 8 (by simp [le_len]; omega)
theorem cH : Cod (ofT tH) (fun x => x.1) (fun _ => True) := by
  refine Cod.ofT (fun x r _ => ?_) (fun b h => ⟨trivial, ?_⟩) (fun x k _ hk => ?_)
  · have hl := x.2
    have a := spA_app x.1 r
    have b := spB_app x.1 r
    have c := spE_app x.1 r
    rw [hl] at a b c
    show (hOf (spA (x.1 ++ r) ((32 : Nat) : Int)), spB (x.1 ++ r) ((32 : Nat) : Int), spE (x.1 ++ r) ((32 : Nat) : Int)) = (x, r, 0)
    rw [a, b, c]
    exact Prod.ext (by unfold hOf; rw [dif_pos hl]) rfl
  · obtain ⟨h1, h2, h3⟩ := sp_ok (b := b) (n := 32) h
    show (hOf (spA b 32)).1 ++ spB b 32 = b
    unfold hOf
    rw [dif_pos (by omega), h2]
  · rw [x.2] at hk
    have : ∀ n : Int, ((x.1.take k).length : Int) < n → spE (x.1.take k) n = 2 := fun n h => (sp_cut h).1
    exact this 32 (by simp [x.2]; omega)

theorem lim_most {b : List UInt8} {most : Int} (h : (lim b most).2.2 = 0) : ((lim b most).1.length : Int) ≤ most := by
  unfold lim at h ⊢
  split at h
  · rename_i hn; exact absurd h hn
  · rename_i hn
    rw [if_neg hn]
    obtain ⟨q1, q2, q3⟩ := sp_ok (b := (bnd b most).2.1) (n := (bnd b most).1) h
    have := (bnd_only (b := b) (most := most) (by simpa using hn)).2
    simp only; omega
theorem tkF_most {most : Int} : ∀ (n : Nat) (acc : List (List UInt8)) (b : List UInt8), (tkF most n acc b).2.2 = 0 → (∀ x ∈ acc, (x.length : Int) ≤ most) → ∀ x ∈ (tkF most n acc b).1, (x.length : Int) ≤ most
  | 0, acc, b, h, ha => ha
  | n + 1, acc, b, h, ha => by
    rw [tkF_succ] at h ⊢
    split at h
    · rename_i hn; exact absurd h hn
    · rename_i hn
      rw [if_neg hn]
      refine tkF_most n _ _ h fun x hx => ?_
      rcases List.mem_append.1 hx with hx | hx
      · exact ha x hx
      · rw [List.mem_singleton.1 hx]; exact lim_most (by simpa using hn)
theorem lst_most {b : List UInt8} {many most : Int} (h : (lst b many most).2.2 = 0) : ∀ x ∈ (lst b many most).1, (x.length : Int) ≤ most := by
  unfold lst at h ⊢
  split at h
  · rename_i hn; exact absurd h hn
  · rename_i hn
    rw [if_neg hn]
    exact tkF_most _ _ _ h (by simp)

theorem cLim (most : Nat) (hm : (most : Int) ≤ 9223372036854775807) : Cod (ofT fun b => lim b most) (fun x => sizeB x.length ++ x) (fun x => x.length ≤ most) := by
  refine Cod.ofT (fun x r h => lim_put r (by omega) hm) (fun b h => ⟨?_, lim_only h⟩) (fun x k h hk => ?_)
  · have := lim_most h; omega
  · rw [lim_cut (by omega) hm hk]
theorem cLst (many most : Nat) (hm : (many : Int) ≤ 9223372036854775807) (hm2 : (most : Int) ≤ 9223372036854775807) : Cod (ofT fun b => lst b many most) (fun x => sizeB x.length ++ flat x) (fun x => x.length ≤ many ∧ ∀ y ∈ x, y.length ≤ most) := by
  refine Cod.ofT (fun x r h => lst_put r (by have := h.1; omega) hm hm2 fun y hy => by have := h.2 y hy; omega) (fun b h => ⟨⟨?_, fun y hy => ?_⟩, (lst_only h).2⟩) (fun x k h hk => ?_)
  · have := (lst_only h).1; omega
  · have := lst_most h y hy; omega
  · rw [lst_cut (by have := h.1; omega) hm hm2 (fun y hy => by have := h.2 y hy; omega) hk]
theorem cScr : Cod (ofT tScr) (fun x => sizeB x.length ++ x) (fun x => x.length ≤ 1000) := cLim 1000 (by omega)
theorem cWit : Cod (ofT tWit) (fun x => sizeB x.length ++ flat x) (fun x => x.length ≤ 30 ∧ ∀ y ∈ x, y.length ≤ 1000) := cLst 30 1000 (by omega) (by omega)
theorem cCnt (m : Nat) (hm : (m : Int) ≤ 9223372036854775807) : Cod (ofT (tCnt m)) (fun n => sizeB (n : Nat)) (fun n => n ≤ m) := by
  refine Cod.ofT (fun x r h => ?_) (fun b h => ⟨?_, (bnd_only h).1⟩) (fun x k h hk => ?_)
  · have := bnd_put (n := x) (most := m) r (by omega) (by omega) hm
    exact this
  · have := (bnd_only h).2; show (bnd b m).1 ≤ m; omega
  · show (bnd _ _).2.2 = 2
    rw [bnd_cut (by omega) hk]
theorem ofT_cntD (m : Nat) : ofT (tCntD m) = ofT (tCnt m) := by
  funext b
  unfold ofT
  by_cases h1 : (sz b).2.2 = 0
  · by_cases h2 : m < (sz b).1
    · have e1 : tCntD m b = (0, (sz b).2.1, 4) := by unfold tCntD; rw [if_pos ⟨h1, h2⟩]
      have e2 : tCnt m b = (0, [], 4) := by unfold tCnt bnd; rw [if_neg (by simpa using h1), if_pos (Or.inr (by omega))]
      rw [e1, e2]; simp
    · have e1 : tCntD m b = ((sz b).1, (sz b).2.1, 0) := by unfold tCntD; rw [if_neg (fun h => h2 h.2), if_neg (by simpa using h1)]
      have e2 : tCnt m b = ((sz b).1, (sz b).2.1, 0) := by unfold tCnt bnd; rw [if_neg (by simpa using h1), if_neg (by omega)]
      rw [e1, e2]
  · have e1 : tCntD m b = (0, (sz b).2.1, (sz b).2.2) := by unfold tCntD; rw [if_neg (fun h => h1 h.1), if_pos h1]
    have e2 : tCnt m b = (0, [], (sz b).2.2) := by unfold tCnt bnd; rw [if_pos h1]
    rw [e1, e2]; simp [h1]

/-! ### The reader's parts: the program's (P) and the document's. -/
variable {α : Type}
def rdX (P : Bool) (t : List UInt8 → α × List UInt8 × Int) (d : α) (s : RSt) : α × RSt := if P then rd t d s else rdD t d s
theorem goodX (P : Bool) (t : List UInt8 → α × List UInt8 × Int) (d : α) : Good (rdX P t d) (ofT t) := by
  cases P
  · exact Good.rdD t d
  · exact Good.rd t d
theorem rdX_len {P : Bool} {t : List UInt8 → α × List UInt8 × Int} {d : α} {s : RSt} (h : ∀ b, (t b).2.1.length ≤ b.length) : (rdX P t d s).2.b.length ≤ s.b.length := by
  unfold rdX
  have := h s.b
  cases P
  · simp only [Bool.false_eq_true, if_false]; unfold rdD; split
    · exact Nat.le_refl _
    · exact this
  · simp only [if_true]; unfold rd; split
    · exact Nat.le_refl _
    · split
      · exact Nat.le_refl _
      · exact this
def rdCnt (P : Bool) (m : Nat) (s : RSt) : Nat × RSt := rdX P (if P then tCnt m else tCntD m) 0 s
theorem goodCnt (P : Bool) (m : Nat) : Good (rdCnt P m) (ofT (tCnt m)) := by
  cases P
  · have := goodX false (tCntD m) 0; rw [ofT_cntD] at this; exact this
  · exact goodX true (tCnt m) 0
theorem t32_len (b : List UInt8) : (t32 b).2.1.length ≤ b.length := spB_len b 4
theorem t64_len (b : List UInt8) : (t64 b).2.1.length ≤ b.length := spB_len b 8
theorem tH_len (b : List UInt8) : (tH b).2.1.length ≤ b.length := spB_len b 32
theorem tScr_len (b : List UInt8) : (tScr b).2.1.length ≤ b.length := (lim_len _ _).2
theorem tkF_len {most : Int} : ∀ (n : Nat) (acc : List (List UInt8)) (b : List UInt8), (tkF most n acc b).2.1.length ≤ b.length
  | 0, acc, b => Nat.le_refl _
  | n + 1, acc, b => by
    rw [tkF_succ]
    split
    · simp
    · have := tkF_len n (acc ++ [(lim b most).1]) (lim b most).2.1 (most := most)
      have := (lim_len b most).2
      omega
theorem lst_len (b : List UInt8) (many most : Int) : (lst b many most).2.1.length ≤ b.length := by
  unfold lst
  split
  · simp
  · have := tkF_len (bnd b many).1 [] (bnd b many).2.1 (most := most)
    have := bnd_len b many
    omega
theorem tWit_len (b : List UInt8) : (tWit b).2.1.length ≤ b.length := lst_len _ _ _
theorem tCnt_len (P : Bool) (m : Nat) (b : List UInt8) : ((if P then tCnt m else tCntD m) b).2.1.length ≤ b.length := by
  cases P
  · show (tCntD m b).2.1.length ≤ _
    have := sz_len b
    unfold tCntD; repeat' split
    all_goals exact this
  · exact bnd_len _ _
theorem cnt_len {P : Bool} {m : Nat} {s : RSt} : (rdCnt P m s).2.b.length ≤ s.b.length := rdX_len (tCnt_len P m)
theorem cnt_most (P : Bool) (m : Nat) (s : RSt) : (rdCnt P m s).1 ≤ m := by
  cases P
  · show (rdD (tCntD m) 0 s).1 ≤ m
    unfold rdD; split
    · exact Nat.zero_le _
    · show (tCntD m s.b).1 ≤ m
      unfold tCntD; repeat' split
      all_goals first | exact Nat.zero_le _ | (dsimp only; omega)
  · show (rd (tCnt m) 0 s).1 ≤ m
    unfold rd; repeat' split
    all_goals first | exact Nat.zero_le _ | skip
    rename_i h1 h2
    have := (bnd_only (b := s.b) (most := m) (Classical.not_not.1 h2)).2
    show (bnd s.b m).1 ≤ m
    omega

def bIn (a : H32 × UInt32 × UInt32) : TIn := ⟨a.1, a.2.1, a.2.2, []⟩
def rdIn (P : Bool) (s : RSt) : TIn × RSt :=
  (⟨(rdX P tH zH s).1, (rdX P t32 0 (rdX P tH zH s).2).1, (rdX P t32 0 (rdX P t32 0 (rdX P tH zH s).2).2).1, []⟩, (rdX P t32 0 (rdX P t32 0 (rdX P tH zH s).2).2).2)
def rdOut (P : Bool) (s : RSt) : TOut × RSt := (⟨(rdX P t64 0 s).1, (rdX P tScr [] (rdX P t64 0 s).2).1⟩, (rdX P tScr [] (rdX P t64 0 s).2).2)
def rdWit (P : Bool) (s : RSt) : List (List UInt8) × RSt := rdX P tWit [] s
/-- The inputs with their witnesses. -/
def wits : List TIn → List (List (List UInt8)) → List TIn
  | x :: l, w :: k => ⟨x.prev, x.idx, x.seq, w⟩ :: wits l k
  | l, _ => l
def rdTx (P : Bool) (s : RSt) : TTx × RSt :=
  let v := rdX P t32 0 s
  let n := rdCnt P 20 v.2
  let is := rdN (rdIn P) n.1 n.2
  let m := rdCnt P 20 is.2
  let os := rdN (rdOut P) m.1 m.2
  let k := rdX P t32 0 os.2
  let ws := rdN (rdWit P) is.1.length k.2
  (⟨v.1, wits is.1 ws.1, os.1, k.1⟩, ws.2)

def pIn : Rdg TIn := pbind (ofT tH) fun h => pbind (ofT t32) fun i => pbind (ofT t32) fun q => ppure ⟨h, i, q, []⟩
def pOut : Rdg TOut := pbind (ofT t64) fun v => pbind (ofT tScr) fun x => ppure ⟨v, x⟩
def pTx : Rdg TTx := pbind (ofT t32) fun v => pbind (ofT (tCnt 20)) fun n => pbind (pN pIn n) fun is => pbind (ofT (tCnt 20)) fun m => pbind (pN pOut m) fun os => pbind (ofT t32) fun k => pbind (pN (ofT tWit) is.length) fun ws => ppure ⟨v, wits is ws, os, k⟩

theorem goodIn (P : Bool) : Good (rdIn P) pIn :=
  (goodX P tH zH).bind (g := fun h s => (TIn.mk h (rdX P t32 0 s).1 (rdX P t32 0 (rdX P t32 0 s).2).1 [], (rdX P t32 0 (rdX P t32 0 s).2).2)) fun h =>
    (goodX P t32 0).bind (g := fun i s => (TIn.mk h i (rdX P t32 0 s).1 [], (rdX P t32 0 s).2)) fun i =>
      (goodX P t32 0).bind (g := fun q s => (TIn.mk h i q [], s)) fun q => Good.pure _
theorem goodOut (P : Bool) : Good (rdOut P) pOut :=
  (goodX P t64 0).bind (g := fun v s => (TOut.mk v (rdX P tScr [] s).1, (rdX P tScr [] s).2)) fun v =>
    (goodX P tScr []).bind (g := fun x s => (TOut.mk v x, s)) fun x => Good.pure _
theorem goodTx (P : Bool) : Good (rdTx P) pTx :=
  (goodX P t32 0).bind (g := fun v s =>
    let n := rdCnt P 20 s
    let is := rdN (rdIn P) n.1 n.2
    let m := rdCnt P 20 is.2
    let os := rdN (rdOut P) m.1 m.2
    let k := rdX P t32 0 os.2
    let ws := rdN (rdWit P) is.1.length k.2
    (TTx.mk v (wits is.1 ws.1) os.1 k.1, ws.2)) fun v =>
  (goodCnt P 20).bind (g := fun n s =>
    let is := rdN (rdIn P) n s
    let m := rdCnt P 20 is.2
    let os := rdN (rdOut P) m.1 m.2
    let k := rdX P t32 0 os.2
    let ws := rdN (rdWit P) is.1.length k.2
    (TTx.mk v (wits is.1 ws.1) os.1 k.1, ws.2)) fun n =>
  ((goodIn P).rep n).bind (g := fun is s =>
    let m := rdCnt P 20 s
    let os := rdN (rdOut P) m.1 m.2
    let k := rdX P t32 0 os.2
    let ws := rdN (rdWit P) is.length k.2
    (TTx.mk v (wits is ws.1) os.1 k.1, ws.2)) fun is =>
  (goodCnt P 20).bind (g := fun m s =>
    let os := rdN (rdOut P) m s
    let k := rdX P t32 0 os.2
    let ws := rdN (rdWit P) is.length k.2
    (TTx.mk v (wits is ws.1) os.1 k.1, ws.2)) fun m =>
  ((goodOut P).rep m).bind (g := fun os s =>
    let k := rdX P t32 0 s
    let ws := rdN (rdWit P) is.length k.2
    (TTx.mk v (wits is ws.1) os k.1, ws.2)) fun os =>
  (goodX P t32 0).bind (g := fun k s =>
    let ws := rdN (rdWit P) is.length s
    (TTx.mk v (wits is ws.1) os k, ws.2)) fun k =>
  ((goodX P tWit []).rep is.length).bind (g := fun ws s => (TTx.mk v (wits is ws) os k, s)) fun ws => Good.pure _

/-! ### There and back. -/
def pPair {β : Type} (p : Rdg α) (q : α → Rdg β) : Rdg (α × β) := pbind p fun x => pbind (q x) fun y => ppure (x, y)
theorem pbind_assoc {β γ : Type} (p : Rdg α) (q : α → Rdg β) (r : β → Rdg γ) : pbind (pbind p q) r = pbind p fun x => pbind (q x) r := by
  funext b
  unfold pbind
  cases p b <;> rfl
theorem pbind_pure {β : Type} (x : α) (q : α → Rdg β) : pbind (ppure x) q = q x := rfl
theorem wits_split : ∀ (l : List TIn), (∀ x ∈ l, x.wit = x.wit) → wits (l.map fun x => ⟨x.prev, x.idx, x.seq, []⟩) (l.map TIn.wit) = l
  | [], _ => rfl
  | x :: l, h => by simp only [List.map_cons, wits]; rw [wits_split l fun _ _ => rfl]
theorem wits_map : ∀ (l : List TIn) (k : List (List (List UInt8))), l.length = k.length → (∀ x ∈ l, x.wit = []) → ((wits l k).map fun x : TIn => (⟨x.prev, x.idx, x.seq, []⟩ : TIn)) = l ∧ (wits l k).map TIn.wit = k
  | [], [], _, _ => ⟨rfl, rfl⟩
  | [], _ :: _, h, _ => by simp at h
  | _ :: _, [], h, _ => by simp at h
  | x :: l, w :: k, h, hw => by
    obtain ⟨h1, h2⟩ := wits_map l k (by simpa using h) fun y hy => hw y (by simp [hy])
    have h3 := hw x (by simp)
    obtain ⟨a, b, c, d⟩ := x
    dsimp only at h3
    subst h3
    simp only [wits, List.map_cons, h1, h2]
    exact ⟨trivial, trivial⟩
theorem wits_len : ∀ (l : List TIn) (k : List (List (List UInt8))), (wits l k).length = l.length
  | [], _ => by simp [wits]
  | _ :: _, [] => by simp [wits]
  | x :: l, w :: k => by simp [wits, wits_len l k]

abbrev TxTup := UInt32 × Nat × List TIn × Nat × List TOut × UInt32 × List (List (List UInt8))
theorem cIn : Cod pIn tInB (fun x => x.wit = []) := by
  have := (Cod.pair cH fun _ _ => Cod.pair codN32 fun _ _ => codN32).map (fun z => (⟨z.1, z.2.1, z.2.2, []⟩ : TIn)) (fun x => (x.prev, x.idx, x.seq)) (fun x => x.wit = [])
    (fun z _ => ⟨rfl, rfl⟩) (fun x h => ⟨⟨trivial, trivial, trivial⟩, by obtain ⟨a, b, c, d⟩ := x; dsimp only at h; subst h; rfl⟩)
  refine this.congr (fun b => ?_) (fun x => ?_) (fun x => Iff.rfl)
  · simp only [pIn, pbind_assoc, pbind_pure]
  · simp only [tInB, List.append_assoc]
theorem cOut : Cod pOut tOutB (fun x => scrOk x = true) := by
  have := (Cod.pair codN64 fun _ _ => cScr).map (fun z => (⟨z.1, z.2⟩ : TOut)) (fun x => (x.val, x.scr)) (fun x => scrOk x = true)
    (fun z h => ⟨rfl, by simpa [scrOk] using h.2⟩) (fun x h => ⟨⟨trivial, by simpa [scrOk] using h⟩, rfl⟩)
  refine this.congr (fun b => ?_) (fun x => ?_) (fun x => Iff.rfl)
  · simp only [pOut, pbind_assoc, pbind_pure]
  · simp only [tOutB]
theorem cTx : Cod pTx wholeB (fun t => countsB t = true) := by
  have := (Cod.pair codN32 fun v _ => Cod.pair (cCnt 20 (by omega)) fun n _ => Cod.pair (cIn.rep n) fun is _ => Cod.pair (cCnt 20 (by omega)) fun m _ => Cod.pair (cOut.rep m) fun os _ => Cod.pair codN32 fun k _ => cWit.rep is.length).map
    (fun z => (⟨z.1, wits z.2.2.1 z.2.2.2.2.2.2, z.2.2.2.2.1, z.2.2.2.2.2.1⟩ : TTx))
    (fun t => (t.ver, t.ins.length, t.ins.map (fun x => ⟨x.prev, x.idx, x.seq, []⟩), t.outs.length, t.outs, t.lock, t.ins.map TIn.wit)) (fun t => countsB t = true) ?_ ?_
  · refine this.congr (fun b => ?_) (fun t => ?_) (fun x => Iff.rfl)
    · simp only [pTx, pbind_assoc, pbind_pure]
    · have e1 : cat tInB (t.ins.map (fun x => (⟨x.prev, x.idx, x.seq, []⟩ : TIn))) = cat tInB t.ins := by
        unfold cat; rw [List.map_map]; rfl
      have e2 : cat (fun x : List (List UInt8) => sizeB x.length ++ flat x) (t.ins.map TIn.wit) = cat witB t.ins := by
        unfold cat; rw [List.map_map]; rfl
      dsimp only
      rw [e1, e2]
      simp only [wholeB, bareB, List.append_assoc]
  · rintro ⟨v, n, is, m, os, k, ws⟩ ⟨_, h1, ⟨h2, h3⟩, h4, ⟨h5, h6⟩, _, h7, h8⟩
    dsimp only at h1 h2 h3 h4 h5 h6 h7 h8 ⊢
    obtain ⟨e1, e2⟩ := wits_map is ws h7.symm h3
    refine ⟨by rw [wits_len, e1, e2, h2, h5], ?_⟩
    have : ∀ x ∈ wits is ws, x.wit.length ≤ 30 ∧ ∀ y ∈ x.wit, y.length ≤ 1000 := fun x hx => h8 x.wit (by rw [← e2]; exact List.mem_map_of_mem hx)
    simp only [countsB, wits_len, Bool.and_eq_true, decide_eq_true_eq, List.all_eq_true, witOk]
    exact ⟨⟨⟨by omega, by omega⟩, h6⟩, this⟩
  · intro t h
    simp only [countsB, Bool.and_eq_true, decide_eq_true_eq, List.all_eq_true, witOk] at h
    obtain ⟨⟨⟨h1, h2⟩, h3⟩, h4⟩ := h
    refine ⟨⟨trivial, h1, ⟨by simp, by simp⟩, h2, ⟨rfl, h3⟩, trivial, by simp, ?_⟩, ?_⟩
    · intro w hw
      obtain ⟨x, hx, rfl⟩ := List.mem_map.1 hw
      exact h4 x hx
    · rw [wits_split _ fun _ _ => rfl]

/-! ### Taking a transaction. -/
def takTx (b : List UInt8) : Res TTx := match pTx b with
  | .ok t r => if b.length - r.length ≤ 12000 then .ok t r else .err 4
  | .err e => .err e
def decTx (b : List UInt8) : Res TTx := match takTx b with
  | .ok t r => if r = [] then .ok t [] else .err 3
  | .err e => .err e
theorem takTx_put {t : TTx} (r : List UInt8) (h : fitsB t = true) : takTx (wholeB t ++ r) = .ok t r := by
  simp only [fitsB, Bool.and_eq_true, decide_eq_true_eq] at h
  unfold takTx
  rw [cTx.put t r h.1]
  dsimp only
  rw [if_pos (by simp; omega)]
theorem takTx_only {b r : List UInt8} {t : TTx} (h : takTx b = .ok t r) : fitsB t = true ∧ wholeB t ++ r = b := by
  unfold takTx at h
  split at h
  · rename_i t' r' h1
    split at h
    · rename_i h2
      cases h
      obtain ⟨k1, k2⟩ := cTx.only _ _ _ h1
      refine ⟨?_, k2⟩
      simp only [fitsB, Bool.and_eq_true, decide_eq_true_eq]
      refine ⟨k1, ?_⟩
      rw [← k2] at h2
      simp at h2; omega
    · cases h
  · cases h
theorem takTx_cut {t : TTx} {k : Nat} (h : fitsB t = true) (hk : k < (wholeB t).length) : takTx ((wholeB t).take k) = .err 2 := by
  simp only [fitsB, Bool.and_eq_true, decide_eq_true_eq] at h
  unfold takTx
  rw [cTx.cut t k h.1 hk]
theorem takTx_err {b : List UInt8} {e : Int} (h : takTx b = .err e) : e ≠ 0 := by
  unfold takTx at h
  split at h
  · split at h
    · cases h
    · cases h; decide
  · rename_i e' h1
    cases h
    exact ((goodTx true).err b _ h1).1
theorem decTx_ok {b r : List UInt8} {t : TTx} (h : decTx b = .ok t r) : fitsB t = true ∧ wholeB t = b ∧ r = [] := by
  unfold decTx at h
  split at h
  · rename_i t' r' h1
    split at h
    · rename_i hr
      cases h
      obtain ⟨k1, k2⟩ := takTx_only h1
      subst hr
      exact ⟨k1, by simpa using k2, rfl⟩
    · cases h
  · cases h
theorem decTx_put {t : TTx} (h : fitsB t = true) : decTx (wholeB t) = .ok t [] := by
  have := takTx_put [] h
  rw [List.append_nil] at this
  unfold decTx
  rw [this]
  dsimp only
  rw [if_pos rfl]
theorem decTx_more {t : TTx} {x : UInt8} {r : List UInt8} (h : fitsB t = true) : decTx (wholeB t ++ x :: r) = .err 3 := by
  unfold decTx
  rw [takTx_put _ h]
  dsimp only
  rw [if_neg (by simp)]
theorem decTx_err {b : List UInt8} {e : Int} (h : decTx b = .err e) : e ≠ 0 := by
  unfold decTx at h
  split at h
  · split at h
    · cases h
    · cases h; decide
  · rename_i e' h1
    cases h
    exact takTx_err h1
theorem fits_chk {t : TTx} (h : fitsB t = true) : chkE t = 0 := if_pos h
theorem nfits_chk {t : TTx} (h : fitsB t = false) : chkE t = 4 := if_neg (by simp [h])

end Go.Fw

end
