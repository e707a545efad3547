/- The abstract machine, and the contracts of the code: part 50. -/
import Derived.Test.YthhpapbokodpdaaP49

section
/- Coins in order: a place is where a Ref stands, or would. Plain laws. -/
namespace Go.Fw
open Go
set_option linter.unusedVariables false
set_option linter.unusedSimpArgs false

theorem cmpL_rev : ∀ x y : List UInt8, cmpL y x = - cmpL x y
  | [], [] => rfl
  | [], _ :: _ => rfl
  | _ :: _, [] => rfl
  | u :: x, v :: y => by
    unfold cmpL
    by_cases h : u = v
    · subst h
      rw [if_pos rfl, if_pos rfl, cmpL_rev x y]
    · rw [if_neg h, if_neg (Ne.symm h)]
      by_cases h2 : u < v
      · rw [if_pos h2, if_neg (fun h3 => by have := UInt8.lt_asymm h2 h3; exact this)]; rfl
      · have h3 : v < u := by
          rcases UInt8.lt_or_lt_of_ne h with h4 | h4
          · exact (h2 h4).elim
          · exact h4
        rw [if_neg h2, if_pos h3]
theorem cmpL_trans : ∀ x y z : List UInt8, cmpL x y < 0 → cmpL y z < 0 → cmpL x z < 0
  | [], [], _, h, _ => by simp [cmpL] at h
  | [], _ :: _, [], _, h => by simp [cmpL] at h
  | [], _ :: _, _ :: _, _, _ => by simp [cmpL]
  | _ :: _, [], _, h, _ => by simp [cmpL] at h
  | _ :: _, _ :: _, [], _, h => by simp [cmpL] at h
  | u :: x, v :: y, w :: z, h, k => by
    unfold cmpL at h k ⊢
    by_cases h1 : u = v
    · subst h1
      rw [if_pos rfl] at h
      by_cases h2 : u = w
      · subst h2
        rw [if_pos rfl] at k ⊢
        exact cmpL_trans x y z h k
      · rw [if_neg h2] at k ⊢
        exact k
    · rw [if_neg h1] at h
      have h3 : u < v := by
        by_cases h4 : u < v
        · exact h4
        · rw [if_neg h4] at h; simp at h
      by_cases h2 : v = w
      · subst h2
        rw [if_neg h1, if_pos h3]; decide
      · rw [if_neg h2] at k
        have h5 : v < w := by
          by_cases h4 : v < w
          · exact h4
          · rw [if_neg h4] at k; simp at k
        have h6 : u < w := UInt8.lt_trans h3 h5
        rw [if_neg (fun e => by subst e; exact UInt8.lt_irrefl _ h6), if_pos h6]; decide
theorem cmpI_rev (a b : Int) : cmpI b a = - cmpI a b := by
  unfold cmpI
  split <;> split <;> first | rfl | omega
theorem cmpI_zero {a b : Int} (h : cmpI a b = 0) : a = b := by
  unfold cmpI at h
  split at h
  · cases h
  · split at h
    · cases h
    · omega
theorem cmpI_neg {a b : Int} : cmpI a b < 0 ↔ a < b := by
  unfold cmpI
  split
  · simp [*]
  · split <;> simp <;> omega
theorem cmpR_self (a : TRef) : cmpR a a = 0 := by
  unfold cmpR
  rw [if_pos (cmpL_self _)]
  unfold cmpI
  rw [if_neg (by omega), if_neg (by omega)]
theorem cmpR_rev (a b : TRef) : cmpR b a = - cmpR a b := by
  unfold cmpR
  rw [cmpL_rev a.h.1 b.h.1, cmpI_rev (a.i.toNat : Int)]
  by_cases h : cmpL a.h.1 b.h.1 = 0
  · rw [if_pos (by omega), if_pos h]
  · rw [if_neg (by omega), if_neg h]
theorem cmpR_eq {a b : TRef} (h : cmpR a b = 0) : a = b := by
  obtain ⟨⟨h1, g1⟩, i1⟩ := a
  obtain ⟨⟨h2, g2⟩, i2⟩ := b
  unfold cmpR at h
  dsimp only at h
  split at h
  · rename_i h0
    have e := cmpL_eq _ _ h0
    subst e
    have e := cmpI_zero h
    have e2 : i1 = i2 := UInt32.toNat_inj.1 (by omega)
    subst e2
    rfl
  · rename_i h0
    exact (h0 h).elim
theorem cmpR_iff {a b : TRef} : cmpR a b = 0 ↔ a = b := ⟨cmpR_eq, fun h => by rw [h]; exact cmpR_self b⟩
theorem cmpR_trans {a b c : TRef} (h : cmpR a b < 0) (k : cmpR b c < 0) : cmpR a c < 0 := by
  unfold cmpR at h k ⊢
  by_cases h1 : cmpL a.h.1 b.h.1 = 0
  · have e := cmpL_eq _ _ h1
    rw [if_pos h1] at h
    rw [e]
    by_cases h2 : cmpL b.h.1 c.h.1 = 0
    · rw [if_pos h2] at k ⊢
      have := cmpI_neg.1 h
      have := cmpI_neg.1 k
      exact cmpI_neg.2 (by omega)
    · rw [if_neg h2] at k ⊢
      exact k
  · rw [if_neg h1] at h
    by_cases h2 : cmpL b.h.1 c.h.1 = 0
    · have e := cmpL_eq _ _ h2
      rw [← e, if_neg h1]
      exact h
    · rw [if_neg h2] at k
      have := cmpL_trans _ _ _ h k
      rw [if_neg (by omega)]
      exact this

/-- Coins in order. -/
def Srt (l : List TCoin) : Prop := l.Pairwise fun a b => cmpR a.r b.r < 0
theorem Srt.nil : Srt [] := List.Pairwise.nil
theorem Srt.at {l : List TCoin} (h : Srt l) {i j : Nat} (hij : i < j) (hj : j < l.length) : cmpR (l.getD i dCoin).r (l.getD j dCoin).r < 0 := by
  have := (List.pairwise_iff_getElem.1 h) i j (by omega) hj hij
  simpa [List.getD_eq_getElem?_getD, List.getElem?_eq_getElem hj, List.getElem?_eq_getElem (show i < l.length by omega)] using this

theorem bs_inv (f : Nat → Int) (N : Nat) (mono : ∀ a b, a ≤ b → b < N → f b < 0 → f a < 0) : ∀ (n i j : Nat), j - i < n → i ≤ j → j ≤ N → (∀ k, k < i → f k < 0) → (∀ k, j ≤ k → k < N → ¬ f k < 0) →
    (∀ k, k < bsN f n i j → f k < 0) ∧ ∀ k, bsN f n i j ≤ k → k < N → ¬ f k < 0
  | 0, _, _, h, _, _, _, _ => by omega
  | n + 1, i, j, h, hij, hN, h1, h2 => by
    unfold bsN
    by_cases hlt : i < j
    · rw [if_pos hlt]
      by_cases hm : f ((i + j) / 2) < 0
      · rw [if_pos hm]
        exact bs_inv f N mono n _ _ (by omega) (by omega) hN (fun k hk => mono k ((i + j) / 2) (by omega) (by omega) hm) h2
      · rw [if_neg hm]
        exact bs_inv f N mono n _ _ (by omega) (by omega) (by omega) h1 (fun k hk hkN hf => hm (mono _ k (by omega) hkN hf))
    · rw [if_neg hlt]
      exact ⟨h1, fun k hk => h2 k (by omega)⟩

theorem Srt.mono {l : List TCoin} (h : Srt l) (r : TRef) (a b : Nat) (hab : a ≤ b) (hb : b < l.length) (hf : cmpR (l.getD b dCoin).r r < 0) : cmpR (l.getD a dCoin).r r < 0 := by
  rcases Nat.lt_or_eq_of_le hab with h1 | h1
  · exact cmpR_trans (h.at h1 hb) hf
  · rw [h1]; exact hf
theorem plN_spec {l : List TCoin} (h : Srt l) (r : TRef) : (∀ k, k < plN l r → cmpR (l.getD k dCoin).r r < 0) ∧ ∀ k, plN l r ≤ k → k < l.length → ¬ cmpR (l.getD k dCoin).r r < 0 :=
  bs_inv (fun k => cmpR (l.getD k dCoin).r r) l.length (fun a b => h.mono r a b) (l.length + 1) 0 l.length (by omega) (by omega) (Nat.le_refl _) (fun k hk => by omega) (fun k h1 h2 => by omega)
theorem plN_uniq {l : List TCoin} (h : Srt l) {r : TRef} {i : Nat} (hi : i ≤ l.length) (h1 : ∀ k, k < i → cmpR (l.getD k dCoin).r r < 0) (h2 : ∀ k, i ≤ k → k < l.length → ¬ cmpR (l.getD k dCoin).r r < 0) : plN l r = i := by
  obtain ⟨g1, g2⟩ := plN_spec h r
  have hle := plN_le l r
  rcases Nat.lt_trichotomy (plN l r) i with h3 | h3 | h3
  · exact (g2 _ (Nat.le_refl _) (by omega) (h1 _ h3)).elim
  · exact h3
  · exact (h2 i (Nat.le_refl _) (by omega) (g1 i h3)).elim
theorem plB_ref {l : List TCoin} {r : TRef} (h : plB l r = true) : (l.getD (plN l r) dCoin).r = r := by
  unfold plB at h
  rw [Bool.and_eq_true, decide_eq_true_eq, decide_eq_true_eq] at h
  exact cmpR_eq h.2
/-- A coin stands at its own place. -/
theorem plN_own {l : List TCoin} (h : Srt l) {i : Nat} (hi : i < l.length) : plN l (l.getD i dCoin).r = i :=
  plN_uniq h (by omega) (fun k hk => h.at hk hi) (fun k hk hkl hf => by
    rcases Nat.lt_or_eq_of_le hk with h1 | h1
    · have h2 := h.at h1 hkl
      rw [cmpR_rev] at h2
      omega
    · rw [← h1, cmpR_self] at hf; omega)
theorem plB_own {l : List TCoin} (h : Srt l) {i : Nat} (hi : i < l.length) : plB l (l.getD i dCoin).r = true := by
  unfold plB
  rw [plN_own h hi, decide_eq_true hi, cmpR_self]; rfl

/-! ### Adding, spending: in order, and one undoes the other. -/
theorem srt_take {l : List TCoin} (h : Srt l) (i : Nat) : Srt (l.take i) := List.Pairwise.sublist (List.take_sublist _ _) h
theorem srt_drop {l : List TCoin} (h : Srt l) (i : Nat) : Srt (l.drop i) := List.Pairwise.sublist (List.drop_sublist _ _) h
theorem srt_del {l : List TCoin} (h : Srt l) (i : Nat) : Srt (delC l i (i + 1)) := by
  have h2 : (delC l i (i + 1)).Sublist l := by
    unfold delC
    have h3 : (l.take i ++ l.drop (i + 1)).Sublist (l.take i ++ l.drop i) := List.Sublist.append_left (by
      rw [show l.drop (i + 1) = (l.drop i).drop 1 by rw [List.drop_drop]]
      exact List.drop_sublist _ _) _
    rwa [List.take_append_drop] at h3
  exact List.Pairwise.sublist h2 h
theorem mem_take_getD {l : List TCoin} {i : Nat} {a : TCoin} (h : a ∈ l.take i) : ∃ k, k < i ∧ k < l.length ∧ l.getD k dCoin = a := by
  obtain ⟨k, hk, rfl⟩ := List.mem_iff_getElem.1 h
  rw [List.length_take] at hk
  refine ⟨k, by omega, by omega, ?_⟩
  simp [List.getD_eq_getElem?_getD, List.getElem?_eq_getElem (show k < l.length by omega)]
theorem mem_drop_getD {l : List TCoin} {i : Nat} {a : TCoin} (h : a ∈ l.drop i) : ∃ k, i ≤ k ∧ k < l.length ∧ l.getD k dCoin = a := by
  obtain ⟨k, hk, rfl⟩ := List.mem_iff_getElem.1 h
  rw [List.length_drop] at hk
  refine ⟨i + k, by omega, by omega, ?_⟩
  simp [List.getD_eq_getElem?_getD, List.getElem?_eq_getElem (show i + k < l.length by omega)]
theorem not_plB {l : List TCoin} (h : Srt l) {r : TRef} (hb : plB l r = false) {k : Nat} (hk : plN l r ≤ k) (hkl : k < l.length) : cmpR r (l.getD k dCoin).r < 0 := by
  have h1 := (plN_spec h r).2
  have h2 := h1 (plN l r) (Nat.le_refl _) (by omega)
  unfold plB at hb
  rw [decide_eq_true (show plN l r < l.length by omega), Bool.true_and, decide_eq_false_iff_not] at hb
  have h3 : cmpR r (l.getD (plN l r) dCoin).r < 0 := by rw [cmpR_rev]; omega
  rcases Nat.lt_or_eq_of_le hk with h4 | h4
  · exact cmpR_trans h3 (h.at h4 hkl)
  · rw [← h4]; exact h3
theorem srt_ins {l : List TCoin} (h : Srt l) {c : TCoin} (hb : plB l c.r = false) : Srt (insC l (plN l c.r) c) := by
  unfold insC Srt
  rw [List.append_assoc, List.pairwise_append]
  refine ⟨srt_take h _, ?_, ?_⟩
  · rw [List.singleton_append, List.pairwise_cons]
    refine ⟨fun a ha => ?_, srt_drop h _⟩
    obtain ⟨k, h1, h2, rfl⟩ := mem_drop_getD ha
    exact not_plB h hb h1 h2
  · intro a ha b hb2
    obtain ⟨i, h1, h2, rfl⟩ := mem_take_getD ha
    have h3 := (plN_spec h c.r).1 i h1
    rw [List.singleton_append, List.mem_cons] at hb2
    rcases hb2 with rfl | hb2
    · exact h3
    · obtain ⟨k, h4, h5, rfl⟩ := mem_drop_getD hb2
      exact h.at (by omega) h5
theorem addV_srt {l : List TCoin} (h : Srt l) (c : TCoin) : Srt (addV l c).1 := by
  unfold addV
  cases hb : plB l c.r with
  | true => exact h
  | false => exact srt_ins h hb
theorem spdV_srt {l : List TCoin} (h : Srt l) (r : TRef) : Srt (spdV l r).1 := by
  unfold spdV
  split
  · exact srt_del h _
  · exact h

theorem insC_getD {l : List TCoin} {i : Nat} (hi : i ≤ l.length) (c : TCoin) : (insC l i c).getD i dCoin = c := by
  unfold insC
  rw [List.append_assoc, List.getD_eq_getElem?_getD, List.getElem?_append_right (by rw [List.length_take]; omega), List.length_take, Nat.min_eq_left hi]
  simp
theorem ins_del {l : List TCoin} {i : Nat} (hi : i ≤ l.length) (c : TCoin) : delC (insC l i c) i (i + 1) = l := by
  unfold delC insC
  have ht : (l.take i ++ [c] ++ l.drop i).take i = l.take i := by
    rw [List.append_assoc, List.take_append_of_le_length (by rw [List.length_take]; omega), List.take_take, Nat.min_self]
  have hd : (l.take i ++ [c] ++ l.drop i).drop (i + 1) = l.drop i := by
    rw [List.drop_append_of_le_length (by rw [List.length_append, List.length_take, Nat.min_eq_left hi]; simp)]
    rw [List.drop_of_length_le (by rw [List.length_append, List.length_take, Nat.min_eq_left hi]; simp), List.nil_append]
  rw [ht, hd, List.take_append_drop]
theorem del_ins {l : List TCoin} {i : Nat} (hi : i < l.length) : insC (delC l i (i + 1)) i (l.getD i dCoin) = l := by
  unfold delC insC
  have ht : (l.take i ++ l.drop (i + 1)).take i = l.take i := by
    rw [List.take_append_of_le_length (by rw [List.length_take]; omega), List.take_take, Nat.min_self]
  have hd : (l.take i ++ l.drop (i + 1)).drop i = l.drop (i + 1) := by
    rw [List.drop_append_of_le_length (by rw [List.length_take]; omega), List.drop_of_length_le (by rw [List.length_take]; omega), List.nil_append]
  have hg : l.getD i dCoin = l[i] := by simp [List.getD_eq_getElem?_getD, List.getElem?_eq_getElem hi]
  rw [ht, hd, hg, List.append_assoc, List.singleton_append, ← List.drop_eq_getElem_cons hi, List.take_append_drop]

/-- What was added is spent: all is as it was. -/
theorem add_spend {l l' : List TCoin} (h : Srt l) {c : TCoin} (ha : addV l c = (l', 0)) : spdV l' c.r = (l, c, 0) := by
  unfold addV at ha
  cases hb : plB l c.r with
  | true => rw [hb] at ha; simp at ha
  | false =>
    rw [hb, if_neg (by simp)] at ha
    obtain rfl : insC l (plN l c.r) c = l' := by injection ha
    have hle := plN_le l c.r
    have hs := srt_ins h hb
    have hlen := insC_len l (plN l c.r) c
    have hg := insC_getD hle c
    have hn : plN (insC l (plN l c.r) c) c.r = plN l c.r := by
      have := plN_own hs (i := plN l c.r) (by omega)
      rwa [hg] at this
    have hp : plB (insC l (plN l c.r) c) c.r = true := by
      have := plB_own hs (i := plN l c.r) (by omega)
      rwa [hg] at this
    unfold spdV
    rw [hp, if_pos rfl, hn, hg, ins_del hle]
/-- What was spent is added: all is as it was. -/
theorem spend_add {l l' : List TCoin} (h : Srt l) {r : TRef} {c : TCoin} (hsp : spdV l r = (l', c, 0)) : c.r = r ∧ addV l' c = (l, 0) := by
  unfold spdV at hsp
  cases hb : plB l r with
  | false => rw [hb] at hsp; simp at hsp
  | true =>
    rw [hb, if_pos rfl] at hsp
    simp only [Prod.mk.injEq, and_true] at hsp
    obtain ⟨rfl, rfl⟩ := hsp
    have hlt : plN l r < l.length := by
      unfold plB at hb
      rw [Bool.and_eq_true] at hb
      exact of_decide_eq_true hb.1
    have hr := plB_ref hb
    refine ⟨hr, ?_⟩
    rw [addV, hr]
    have hs := srt_del h (plN l r)
    obtain ⟨g1, g2⟩ := plN_spec h r
    have hlen : (delC l (plN l r) (plN l r + 1)).length = l.length - 1 := by
      unfold delC; rw [List.length_append, List.length_take, List.length_drop]; omega
    have lo : ∀ k, k < plN l r → (delC l (plN l r) (plN l r + 1)).getD k dCoin = l.getD k dCoin := by
      intro k hk
      unfold delC
      rw [List.getD_eq_getElem?_getD, List.getElem?_append_left (by rw [List.length_take]; omega), List.getElem?_take, if_pos hk, List.getD_eq_getElem?_getD]
    have hi : ∀ k, plN l r ≤ k → (delC l (plN l r) (plN l r + 1)).getD k dCoin = l.getD (k + 1) dCoin := by
      intro k hk
      unfold delC
      rw [List.getD_eq_getElem?_getD, List.getElem?_append_right (by rw [List.length_take]; omega), List.length_take, Nat.min_eq_left (by omega), List.getElem?_drop, List.getD_eq_getElem?_getD]
      congr 2; omega
    have up : ∀ k, plN l r < k → k < l.length → cmpR r (l.getD k dCoin).r < 0 := by
      intro k hk hkl
      have := h.at hk hkl
      rwa [hr] at this
    have hn : plN (delC l (plN l r) (plN l r + 1)) r = plN l r := by
      refine plN_uniq hs (by omega) (fun k hk => by rw [lo k hk]; exact g1 k hk) (fun k hk hkl hf => ?_)
      rw [hi k hk] at hf
      have := up (k + 1) (by omega) (by omega)
      rw [cmpR_rev] at this
      omega
    have hp : plB (delC l (plN l r) (plN l r + 1)) r = false := by
      unfold plB
      rw [hn, hlen]
      by_cases h3 : plN l r < l.length - 1
      · rw [decide_eq_true h3, Bool.true_and, decide_eq_false_iff_not, hi _ (Nat.le_refl _)]
        intro h4
        have := up (plN l r + 1) (by omega) (by omega)
        rw [cmpR_rev] at this
        omega
      · rw [decide_eq_false h3]; rfl
    rw [hp, if_neg (by simp), hn, del_ins hlt]

/-! ### Coins loaded. -/
theorem addV_err (l : List TCoin) (c : TCoin) : ((addV l c).2 = 0 ∧ plB l c.r = false ∧ (addV l c).1 = insC l (plN l c.r) c) ∨ ((addV l c).2 = 32 ∧ plB l c.r = true ∧ (addV l c).1 = l) := by
  unfold addV
  cases hb : plB l c.r with
  | true => exact .inr ⟨rfl, rfl, rfl⟩
  | false => exact .inl ⟨rfl, rfl, rfl⟩
theorem addsV_err : ∀ (cs l : List TCoin), ((addsV l cs).2 = 0 ∧ (addsV l cs).1.length = l.length + cs.length) ∨ (addsV l cs).2 = 32
  | [], l => .inl ⟨rfl, rfl⟩
  | c :: cs, l => by
    unfold addsV
    rcases addV_err l c with ⟨h1, h2, h3⟩ | ⟨h1, h2, h3⟩
    · rw [if_neg (by omega), h3]
      rcases addsV_err cs (insC l (plN l c.r) c) with ⟨g1, g2⟩ | g1
      · exact .inl ⟨g1, by rw [g2, insC_len, List.length_cons]; omega⟩
      · exact .inr g1
    · rw [if_pos (by omega)]
      exact .inr h1
theorem addsV_srt : ∀ (cs l : List TCoin), Srt l → Srt (addsV l cs).1
  | [], l, h => h
  | c :: cs, l, h => by
    unfold addsV
    split
    · exact addV_srt h c
    · exact addsV_srt cs _ (addV_srt h c)

/-! ### A block applied; an error may leave a part of it. -/
def blkV (nm : TTx → H32) (ht : UInt32) : List TCoin → List TTx → Bool → List TCoin → List TCoin × List TCoin × Int
  | l, [], _, acc => (l, acc, 0)
  | l, t :: ts, first, acc =>
    if (applyV l t (nm t) ht first).2.2 ≠ 0 then ((applyV l t (nm t) ht first).1, acc, (applyV l t (nm t) ht first).2.2)
    else blkV nm ht (applyV l t (nm t) ht first).1 ts false (acc ++ (applyV l t (nm t) ht first).2.1)

/-! ### A transaction reverted; an error may leave a part of it. -/
def refB (a b : TRef) : Bool := a.h.1 == b.h.1 && ((a.i.toNat : Int) == (b.i.toNat : Int))
theorem refB_iff (a b : TRef) : refB a b = true ↔ a = b := by
  obtain ⟨⟨h1, g1⟩, i1⟩ := a
  obtain ⟨⟨h2, g2⟩, i2⟩ := b
  simp only [refB, Bool.and_eq_true, beq_iff_eq]
  constructor
  · rintro ⟨e1, e2⟩
    subst e1
    have e2' : i1 = i2 := UInt32.toNat_inj.1 (by omega)
    subst e2'
    rfl
  · intro h; cases h; exact ⟨rfl, rfl⟩
def eqRefs : List TCoin → List TRef → Bool
  | [], [] => true
  | c :: cs, r :: rs => refB c.r r && eqRefs cs rs
  | _, _ => false
theorem eqRefs_iff : ∀ (cs : List TCoin) (rs : List TRef), eqRefs cs rs = true ↔ cs.map (·.r) = rs
  | [], [] => by simp [eqRefs]
  | [], _ :: _ => by simp [eqRefs]
  | _ :: _, [] => by simp [eqRefs]
  | c :: cs, r :: rs => by
    simp only [eqRefs, Bool.and_eq_true, refB_iff, eqRefs_iff cs rs, List.map_cons, List.cons.injEq]
theorem eqRefs_len {cs : List TCoin} {rs : List TRef} (h : cs.length ≠ rs.length) : eqRefs cs rs = false := by
  cases hb : eqRefs cs rs with
  | false => rfl
  | true =>
    have := (eqRefs_iff cs rs).1 hb
    subst this
    simp at h
def unmV (nm : H32) : Nat → List TCoin → List TCoin × Int
  | 0, l => (l, 0)
  | n + 1, l => if (spdV l ⟨nm, UInt32.ofNat n⟩).2.2 ≠ 0 then ((spdV l ⟨nm, UInt32.ofNat n⟩).1, (spdV l ⟨nm, UInt32.ofNat n⟩).2.2) else unmV nm n (spdV l ⟨nm, UInt32.ofNat n⟩).1
theorem unmV_ok (nm : H32) : ∀ (n : Nat) (l : List TCoin), lowL l = true → lowL (unmV nm n l).1 = true ∧ (unmV nm n l).1.length ≤ l.length
  | 0, l, h => ⟨h, Nat.le_refl _⟩
  | n + 1, l, h => by
    obtain ⟨s1, s2, s3⟩ := spdV_ok h ⟨nm, UInt32.ofNat n⟩
    unfold unmV
    split
    · exact ⟨s1, s2⟩
    · obtain ⟨t1, t2⟩ := unmV_ok nm n _ s1
      exact ⟨t1, by omega⟩
def revV (l : List TCoin) (t : TTx) (nm : H32) (first : Bool) (sp : List TCoin) : List TCoin × Int :=
  if chkE t ≠ 0 then (l, 1)
  else if eqRefs sp (insR t first) = false then (l, 1)
  else if (unmV nm t.outs.length l).2 ≠ 0 then unmV nm t.outs.length l
  else addsV (unmV nm t.outs.length l).1 sp.reverse

/-! ### A block undone; an error may leave a part of it. -/
def cumN (ts : List TTx) : Nat → Nat
  | 0 => 0
  | i + 1 => cumN ts i + (insR (ts.getD i dTx) (decide (i = 0))).length
theorem cumN_mono (ts : List TTx) {i j : Nat} (h : i ≤ j) : cumN ts i ≤ cumN ts j := by
  induction j with
  | zero => rw [Nat.le_zero.1 h]; exact Nat.le_refl _
  | succ j ih =>
    rcases Nat.lt_or_eq_of_le h with h1 | h1
    · exact Nat.le_trans (ih (by omega)) (Nat.le_add_right _ _)
    · rw [h1]; exact Nat.le_refl _
def undV (nm : TTx → H32) (ts : List TTx) (sp : List TCoin) : Nat → List TCoin → List TCoin × Int
  | 0, l => (l, 0)
  | i + 1, l =>
    if (revV l (ts.getD i dTx) (nm (ts.getD i dTx)) (decide (i = 0)) ((sp.take (cumN ts (i + 1))).drop (cumN ts i))).2 ≠ 0 then revV l (ts.getD i dTx) (nm (ts.getD i dTx)) (decide (i = 0)) ((sp.take (cumN ts (i + 1))).drop (cumN ts i))
    else undV nm ts sp i (revV l (ts.getD i dTx) (nm (ts.getD i dTx)) (decide (i = 0)) ((sp.take (cumN ts (i + 1))).drop (cumN ts i))).1

end Go.Fw

end

section
/- view's answer: Refs in order; lists alike; which coins may be asked about. -/
namespace Go.Fw
open Go Go.Proofs
set_option linter.unusedVariables false
set_option linter.unusedSimpArgs false

theorem less_cmp : ∀ x y : List UInt8, Op.bytesLess x y = decide (cmpL x y < 0)
  | [], [] => rfl
  | [], _ :: _ => rfl
  | _ :: _, [] => rfl
  | u :: x, v :: y => by
    unfold Op.bytesLess cmpL
    by_cases h : u = v
    · subst h
      rw [if_pos rfl, ← less_cmp x y]
      simp
    · rw [if_neg h]
      by_cases h2 : u < v
      · rw [if_pos h2]
        simp [h2]
      · rw [if_neg h2]
        simp [h, h2]
theorem beq_cmp (x y : List UInt8) : (x == y) = decide (cmpL x y = 0) := by
  rw [Bool.eq_iff_iff, beq_iff_eq, decide_eq_true_eq]
  exact ⟨fun h => by rw [h]; exact cmpL_self y, cmpL_eq x y⟩

noncomputable def F13 : Fun
  | [x, y] => match inv rfT x, inv rfT y with
    | some a, some b => some ([], .t (.bool (decide (cmpR a b < 0))))
    | _, _ => none
  | _ => none

theorem ct13 : CT [] [0, 1, 2, 3, 4, 5, 6] [(1, [⟨0, [2], [], []⟩, ⟨1, [7], [], []⟩, ⟨1, [8], [1], []⟩, ⟨0, [3], [], []⟩, ⟨1, [10], [], []⟩, ⟨1, [11], [4], []⟩, ⟨0, [9], [1, 2], []⟩, ⟨0, [12], [1, 2, 4, 5], []⟩])] := ⟨GClOk.nil _⟩

set_option maxHeartbeats 2000000 in
theorem c13 : ACon Try.prog 13 F13 := by
  refine aconc E_ok (rs := [.tmp 4 4]) Try.func13 rfl Try.ntmps13 (by kernel_rfl) rfl (by decide) F13 (np := 2) ?_ ?_
  · intro ts h; unfold F13; split <;> first | rfl | (simp at h; done)
  intro ts H r hF hwf
  unfold F13 at hF
  split at hF <;> try (cases hF; done)
  split at hF <;> try (cases hF; done)
  rename_i a b ha hb
  cases hF
  obtain rfl := inv_inv ha
  obtain rfl := inv_inv hb
  obtain ⟨⟨h1, g1⟩, i1⟩ := a
  obtain ⟨⟨h2, g2⟩, i2⟩ := b
  have hl := less_cmp h1 h2
  have he := beq_cmp h1 h2
  have ht1 : List.take 32 h1 = h1 := List.take_of_length_le (by omega)
  have ht2 : List.take 32 h2 = h2 := List.take_of_length_le (by omega)
  have hr : decide (cmpR ⟨⟨h1, g1⟩, i1⟩ ⟨⟨h2, g2⟩, i2⟩ < 0) = (Op.bytesLess h1 h2 || ((h1 == h2) && decide ((i1.toNat : Int) < (i2.toNat : Int)))) := by
    rw [hl, he]
    unfold cmpR cmpI
    dsimp only
    by_cases h0 : cmpL h1 h2 = 0
    · rw [if_pos h0, h0]
      by_cases h3 : (i1.toNat : Int) < (i2.toNat : Int)
      · rw [if_pos h3]; simp [h3]
      · rw [if_neg h3]
        by_cases h4 : (i2.toNat : Int) < (i1.toNat : Int)
        · rw [if_pos h4]; simp [h3]
        · rw [if_neg h4]; simp [h3]
    · rw [if_neg h0]; simp [h0]
  rw [hr]
  simp only [rfT]
  cases q1 : Op.bytesLess h1 h2 with
  | true =>
    repeat refine St (And.intro g1 <| And.intro g2 <| And.intro ht1 <| And.intro ht2 <| q1) ct13 ?_
    exact AWP.ret (Fin trivial [] [])
  | false =>
    cases q2 : (h1 == h2) with
    | true =>
      repeat refine St (And.intro g1 <| And.intro g2 <| And.intro ht1 <| And.intro ht2 <| And.intro q1 <| q2) ct13 ?_
      exact AWP.ret (Fin trivial [] [])
    | false =>
      repeat refine St (And.intro g1 <| And.intro g2 <| And.intro ht1 <| And.intro ht2 <| And.intro q1 <| q2) ct13 ?_
      exact AWP.ret (Fin trivial [] [])
theorem less_cc (a b : TRef) : F13 [.st [.ba 32 a.h.1, .int .u32 (a.i.toNat : Int)], .st [.ba 32 b.h.1, .int .u32 (b.i.toNat : Int)]] = some ([], .t (.bool (decide (cmpR a b < 0)))) := by
  show F13 [rfT a, rfT b] = _
  simp only [F13, inv_of rfT_inj]

def okCoin (c : TCoin) : Bool := decide (c.out.scr.length ≤ 600)
def okCs (l : List TCoin) : Bool := decide (l.length ≤ 40) && l.all okCoin
theorem okCs_ok {l : List TCoin} (h : okCs l = true) : l.length ≤ 40 ∧ lowL l = true := by
  unfold okCs at h
  rw [Bool.and_eq_true, decide_eq_true_eq] at h
  refine ⟨h.1, List.all_eq_true.2 fun x hx => ?_⟩
  have := List.all_eq_true.1 h.2 x hx
  unfold okCoin at this
  unfold lowC
  rw [decide_eq_true_eq] at this ⊢
  omega

noncomputable def F7 : Fun
  | [.sq 37 y] => match inv (List.map coinT) y with
    | some l => some ([], .t (.bool (okCs l)))
    | none => none
  | _ => none

theorem ct7 : CT [] [0, 2, 3, 7, 21] [] := ⟨GClOk.nil _⟩

set_option maxHeartbeats 2000000 in
theorem c7 : ACon Try.prog 7 F7 := by
  refine aconc E_ok (rs := [.tmp 2 4]) Try.func7 rfl Try.ntmps7 (by kernel_rfl) rfl (by decide) F7 (np := 1) ?_ ?_
  · intro ts h; unfold F7; split <;> first | rfl | (simp at h; done)
  intro ts H r hF hwf
  unfold F7 at hF
  split at hF <;> try (cases hF; done)
  split at hF <;> try (cases hF; done)
  rename_i l hl
  cases hF
  obtain rfl := inv_inv hl
  have hml : (l.map coinT).length = l.length := List.length_map ..
  have hg : l.length ≤ maxLen := by
    have h1 := hwf (.sq 37 (l.map coinT)) (by simp)
    simp only [T.wf] at h1
    simpa using h1.2.1
  unfold maxLen at hg
  have hsm : okCs l = (decide (l.length ≤ 40) && l.all okCoin) := rfl
  obtain ⟨c, hc⟩ : ∃ c, okCs l = c := ⟨_, rfl⟩
  rw [hc] at hsm ⊢
  repeat refine St trivial ct7 ?_
  refine AWP.loop (G := { i : Nat // i ≤ l.length ∧ i ≤ 40 ∧ (l.take i).all okCoin = true }) (fun i => ⟨[(0, .t (.sq 37 (l.map coinT))), (3, .t (.int .i64 (i.1 : Int)))], []⟩) (fun i => l.length - i.1) ⟨0, by omega, by omega, rfl⟩ (Wt trivial [0, 3] []) ?_
  intro ⟨i, hi, hi8, ha⟩
  dsimp only
  by_cases hlt : (i : Int) < (l.length : Int)
  · have hlt' : i < l.length := by omega
    by_cases h8 : i = 40
    · have e : c = false := by rw [hsm, decide_eq_false (by omega)]; rfl
      have h8' : ((i : Int) == 40) = true := by rw [beq_iff_eq]; omega
      subst e
      repeat refine St (And.intro hlt <| And.intro hml <| h8') ct7 ?_
      exact AWP.ret (Fin trivial [] [])
    have h8' : ((i : Int) == 40) = false := by rw [beq_eq_false_iff_ne]; omega
    have hget := coin_getD l i hlt'
    have hal := all_take okCoin dCoin l i hlt'
    have hbad := all_getD okCoin dCoin l i hlt'
    have hoe : okCoin (l.getD i dCoin) = decide ((l.getD i dCoin).out.scr.length ≤ 600) := rfl
    generalize l.getD i dCoin = x at *
    rw [coinT_st] at hget
    by_cases hb : 600 < (x.out.scr.length : Int)
    · have hx : okCoin x = false := by rw [hoe]; exact decide_eq_false (by omega)
      have e : c = false := by rw [hsm, hbad hx, Bool.and_false]
      subst e
      repeat refine St (And.intro hlt <| And.intro hlt' <| And.intro hml <| And.intro h8' <| And.intro hget <| hb) ct7 ?_
      exact AWP.ret (Fin trivial [] [])
    · have hx : okCoin x = true := by rw [hoe]; exact decide_eq_true (by omega)
      rw [ha, hx] at hal
      repeat refine St (And.intro hlt <| And.intro hlt' <| And.intro hml <| And.intro h8' <| And.intro hget <| hb) ct7 ?_
      exact ⟨⟨i + 1, by omega, by omega, by rw [hal]; rfl⟩, (Wt trivial [0, 3] []), by simp only; omega⟩
  obtain rfl : i = l.length := by omega
  rw [List.take_length] at ha
  have e : c = true := by rw [hsm, ha, decide_eq_true hi8]; rfl
  subst e
  repeat refine St (And.intro hlt <| hml) ct7 ?_
  exact AWP.ret (Fin trivial [] [])
theorem coins_cc (l : List TCoin) : F7 [.sq 37 (l.map coinT)] = some ([], .t (.bool (okCs l))) := by
  have hi : inv (List.map coinT) (l.map coinT) = some l := inv_of (f := List.map coinT) (fun a b h => coins_inj a b h) l
  simp only [F7, hi]

end Go.Fw

end

section
/- view: coins loaded. -/
namespace Go.Fw
open Go Go.Proofs
set_option linter.unusedVariables false
set_option linter.unusedSimpArgs false

noncomputable def loadR (R : List TCoin × Int) : List Blk × AV := @ite _ (R.2 = 0) (Classical.propDecidable _) (vwH R.1, .tup [.ptr 0 0 [], .t (.int .i64 0)]) ([], .tup [.t .nilp, .t (.int .i64 R.2)])
noncomputable def F9 : Fun
  | [.sq 37 y] => match inv (List.map coinT) y with
    | some l => @ite _ ((l.length ≤ 900000 ∧ lowL l = true)) (Classical.propDecidable _) ((some (loadR (addsV [] l)))) none
    | none => none
  | _ => none

theorem ct9 : CT [(24, ⟨[true, false], G24⟩), (26, ⟨[], treeG F26⟩)] [0, 2, 3, 4, 6, 7, 9, 10, 11, 12, 19] [] := ⟨(.cons g24 (.cons c26.g (.nil _)))⟩

set_option maxHeartbeats 2000000 in
theorem c9 : ACon Try.prog 9 F9 := by
  refine aconc E_ok (rs := [.tmp 2 29, .tmp 3 30]) Try.func9 rfl Try.ntmps9 (by kernel_rfl) rfl (by decide) F9 (np := 1) ?_ ?_
  · intro ts h; unfold F9; split <;> first | rfl | (simp at h; done)
  intro ts H r hF hwf
  unfold F9 at hF
  split at hF <;> try (cases hF; done)
  split at hF <;> try (cases hF; done)
  rename_i l hl
  split at hF
  case isFalse => cases hF
  rename_i hcc
  obtain ⟨hlen, hlow⟩ := hcc
  obtain rfl := inv_inv hl
  have hml : (l.map coinT).length = l.length := List.length_map ..
  obtain ⟨R, hR⟩ : ∃ R, addsV [] l = R := ⟨_, rfl⟩
  rw [hR] at hF
  repeat refine St (And.intro @F26.eq_def <| And.intro @vwH.eq_def <| And.intro @List.map_nil.{0, 0} <| hml) ct9 ?_
  refine AWP.weak (Weak.moveBx (v' := _) 0 1 [0] 0 _ rfl rfl rfl (by decide) (by simp only [W, eqq, ↓reduceIte, Nat.reduceEqDiff, Nat.reduceLT, Nat.reduceLeDiff, Nat.reduceAdd, Nat.reduceMul, Nat.reduceSub, Nat.reduceBEq, Int.reduceLE, Int.reduceLT, Int.reduceNeg, Int.reduceToNat, Int.reduceEq, Int.reduceBEq, Int.reduceBNe, Nat.reduceBNe, bne_self_eq_false, reduceCtorEq, gt_iff_lt, ge_iff_le]) (by simp only [W, eqq, ↓reduceIte, Nat.reduceEqDiff, Nat.reduceLT, Nat.reduceLeDiff, Nat.reduceAdd, Nat.reduceMul, Nat.reduceSub, Nat.reduceBEq, Int.reduceLE, Int.reduceLT, Int.reduceNeg, Int.reduceToNat, Int.reduceEq, Int.reduceBEq, Int.reduceBNe, Nat.reduceBNe, bne_self_eq_false, reduceCtorEq, gt_iff_lt, ge_iff_le]) (by simp only [W, eqq, ↓reduceIte, Nat.reduceEqDiff, Nat.reduceLT, Nat.reduceLeDiff, Nat.reduceAdd, Nat.reduceMul, Nat.reduceSub, Nat.reduceBEq, Int.reduceLE, Int.reduceLT, Int.reduceNeg, Int.reduceToNat, Int.reduceEq, Int.reduceBEq, Int.reduceBNe, Nat.reduceBNe, bne_self_eq_false, reduceCtorEq, gt_iff_lt, ge_iff_le]; rfl)) ?_
  refine AWP.loop (G := { x : Nat × List TCoin // x.1 ≤ l.length ∧ x.2.length ≤ x.1 ∧ lowL x.2 = true ∧ addsV x.2 (l.drop x.1) = R }) (fun x => ⟨[(4, .ptr 0 0 []), (9, .t (.sq 37 (l.map coinT))), (10, .t (.int .i64 (l.length : Int))), (11, .t (.int .i64 (x.1.1 : Int)))], [.bx (.st [.own 2]), .no, .sq 37 (x.1.2.map coinT)]⟩) (fun x => l.length - x.1.1) ⟨⟨0, []⟩, Nat.zero_le _, Nat.le_refl _, rfl, hR⟩ (Wt (@List.map_nil.{0, 0}) [4, 9, 10, 11] [0, 1, 2]) ?_
  rintro ⟨⟨i, L⟩, hi, hL, hLl, hT⟩
  dsimp only at hi hL hLl hT ⊢
  clear hR
  by_cases hlt : i < l.length
  · have hlt2 : (i : Int) < (l.length : Int) := by omega
    have hw1 : IntKind.i64.wrap ((i : Int) + 1) = ((i + 1 : Nat) : Int) := by rw [wrap_i64 (by omega) (by omega)]; omega
    have hg := coin_getD l i hlt
    have hlw := lowL_get hlow hlt
    have hdr : l.drop i = l.getD i dCoin :: l.drop (i + 1) := by
      rw [List.drop_eq_getElem_cons hlt]
      simp [List.getD_eq_getElem?_getD, hlt]
    rw [hdr, addsV] at hT
    have had := add_c L (l.getD i dCoin) (by omega) hlw
    obtain ⟨a1, a2⟩ := addV_ok hLl hlw
    rw [coinT_st] at hg
    generalize l.getD i dCoin = c at *
    generalize addV L c = A at *
    obtain ⟨L', e⟩ := A
    dsimp only at hT had a1 a2
    simp only [vwN] at had
    by_cases he : e = 0
    · subst he
      rw [if_neg (by simp)] at hT
      have hd0 : ((0 : Int) != 0) = false := rfl
      repeat refine St (And.intro hlt <| And.intro hlt2 <| And.intro hml <| And.intro hw1 <| And.intro hg <| And.intro had <| hd0) ct9 ?_
      exact ⟨⟨⟨i + 1, L'⟩, by show i + 1 ≤ l.length; omega, by show L'.length ≤ i + 1; omega, a1, hT⟩, (Wt trivial [4, 9, 10, 11] [0, 1, 4]), by simp only; omega⟩
    · rw [if_pos he] at hT
      have he2 : (e != 0) = true := by simpa using he
      subst hT
      rw [show loadR (L', e) = ([], .tup [.t .nilp, .t (.int .i64 e)]) from if_neg he] at hF
      cases hF
      repeat refine St (And.intro hlt <| And.intro hlt2 <| And.intro hml <| And.intro hw1 <| And.intro hg <| And.intro had <| he2) ct9 ?_
      exact AWP.ret (Fin trivial [] [])
  obtain rfl : i = l.length := by omega
  have hlt2 : ¬ (l.length : Int) < (l.length : Int) := by omega
  rw [List.drop_length, addsV] at hT
  subst hT
  rw [show loadR (L, 0) = (vwH L, .tup [.ptr 0 0 [], .t (.int .i64 0)]) from if_pos rfl] at hF
  cases hF
  repeat refine St hlt2 ct9 ?_
  exact AWP.ret (Fin @vwH.eq_def [] [0, 2])
theorem load_c (l : List TCoin) (h : l.length ≤ 900000) (h2 : lowL l = true) : F9 [.sq 37 (l.map coinT)] = some (loadR (addsV [] l)) := by
  have hi : inv (List.map coinT) (l.map coinT) = some l := inv_of (f := List.map coinT) (fun a b h => coins_inj a b h) l
  simp only [F9, hi]
  exact if_pos ⟨h, h2⟩

end Go.Fw

end

section
/- view: a block applied. -/
namespace Go.Fw
open Go Go.Proofs
set_option linter.unusedVariables false
set_option linter.unusedSimpArgs false

theorem applyV_ok {l : List TCoin} (h : lowL l = true) (t : TTx) (nm : H32) (ht : UInt32) (first : Bool) :
    lowL (applyV l t nm ht first).1 = true ∧ (applyV l t nm ht first).1.length ≤ l.length + 20 ∧ lowL (applyV l t nm ht first).2.1 = true ∧ (applyV l t nm ht first).2.1.length ≤ 20 := by
  obtain ⟨t1, t2, t3, t4⟩ := takeV_ok (insR t first) l [] h rfl
  unfold applyV
  rcases chk_two t with ⟨e1, e2, e3⟩ | ⟨e1, e2⟩
  rotate_left
  · rw [if_pos (by rw [e1]; decide)]
    exact ⟨h, by simp, rfl, by simp⟩
  rw [if_neg (by rw [e1]; simp)]
  obtain ⟨c1, c2, c3, _⟩ := countsB_ok e2
  have hrl : (insR t first).length ≤ 20 := by unfold insR; split <;> simp <;> omega
  simp only [List.length_nil, Nat.zero_add] at t4
  split
  · exact ⟨t1, by simp only; omega, rfl, by simp⟩
  · have hmk := madeC_low e2 nm ht first
    obtain ⟨a1, a2⟩ := addsV_ok (madeC t nm ht first) _ t1 hmk
    rw [madeC_len] at a2
    split
    · exact ⟨a1, by simp only; omega, rfl, by simp⟩
    · exact ⟨a1, by simp only; omega, t3, by simp only; omega⟩

theorem blkV_ok (nm : TTx → H32) (ht : UInt32) : ∀ (ts : List TTx) (l acc : List TCoin) (first : Bool), lowL l = true → lowL acc = true →
    lowL (blkV nm ht l ts first acc).1 = true ∧ (blkV nm ht l ts first acc).1.length ≤ l.length + 20 * ts.length ∧ lowL (blkV nm ht l ts first acc).2.1 = true ∧ (blkV nm ht l ts first acc).2.1.length ≤ acc.length + 20 * ts.length
  | [], l, acc, first, h, ha => ⟨h, by simp [blkV], ha, by simp [blkV]⟩
  | t :: ts, l, acc, first, h, ha => by
    obtain ⟨a1, a2, a3, a4⟩ := applyV_ok h t (nm t) ht first
    unfold blkV
    rw [List.length_cons]
    split
    · exact ⟨a1, by simp only; omega, ha, by simp only; omega⟩
    · obtain ⟨b1, b2, b3, b4⟩ := blkV_ok nm ht ts (applyV l t (nm t) ht first).1 (acc ++ (applyV l t (nm t) ht first).2.1) false a1 (by rw [lowL_app, ha, a3]; rfl)
      rw [List.length_append] at b4
      exact ⟨b1, by omega, b3, by omega⟩

/-- What Block's trial is lent. -/
structure BkX where
  l : List TCoin
  ts : List TTx
  ht : UInt32
noncomputable def bkH (x : BkX) : List Blk := [.bx (.st [.own 1]), .sq 37 (x.l.map coinT), .bx (.t (txsT x.ts)), .bx (.t (.fn 31)), .bx (.t (h32T x.ht)), .bx (.t .nil)]
theorem bkH_inj (a b : BkX) (h : bkH a = bkH b) : a = b := by
  obtain ⟨l1, t1, h1⟩ := a
  obtain ⟨l2, t2, h2⟩ := b
  simp only [bkH, List.cons.injEq, Blk.sq.injEq, Blk.bx.injEq, AV.t.injEq, true_and, and_true] at h
  obtain ⟨g1, g2, g3⟩ := h
  rw [coins_inj _ _ g1, txsT_inj _ _ g2, h32T_inj _ _ g3]
noncomputable def bkN (x : BkX) (l sp : List TCoin) : List Blk := [.bx (.st [.own 6]), .no, .bx (.t (txsT x.ts)), .bx (.t (.fn 31)), .bx (.t (h32T x.ht)), .bx (.t (.sq 37 (sp.map coinT))), .sq 37 (l.map coinT)]
noncomputable def bk1 (x : BkX) : List TCoin × List TCoin × Int := blkV nmH x.ht x.l x.ts true []

noncomputable def G33 : GFun
  | HB, [.ptr 0 0 [], .ptr 2 0 [], .ptr 3 0 [], .ptr 4 0 [], .ptr 5 0 []] => match inv bkH HB with
    | some x => @ite _ ((x.l.length ≤ 400000 ∧ lowL x.l = true ∧ x.ts.length ≤ 10000)) (Classical.propDecidable _) ((some (bkN x (bk1 x).1 (bk1 x).2.1, .t (.int .i64 (bk1 x).2.2)))) none
    | none => none
  | _, _ => none

theorem ct33 : CT [(31, ⟨[true, false, false, false], G31⟩)] [0, 1, 2, 3, 4, 6, 7, 8, 9, 10, 11, 12, 13, 14, 29] [] := ⟨(.cons g31 (.nil _))⟩

theorem txs_getD (l : List TTx) (k : Nat) (h : k < l.length) : (l.map txT).getD k default = txT (l.getD k dTx) := by simp [h]

set_option maxHeartbeats 4000000 in
theorem g33 : GCon Try.prog 33 G33 := by
  refine gconc E_ok (rs := [.tmp 6 30]) Try.func33 rfl Try.ntmps33 (by kernel_rfl) rfl (by decide) G33 (np := 5) ?_ ?_
  · intro HB xs h; unfold G33; split <;> first | rfl | (simp at h; done)
  intro HB xs H r hG hwf hex
  unfold G33 at hG
  split at hG <;> try (cases hG; done)
  split at hG <;> try (cases hG; done)
  rename_i x hx
  split at hG
  case isFalse => cases hG
  rename_i hcc
  cases hG
  obtain ⟨hlen, hlow, htl⟩ := hcc
  obtain rfl := inv_inv hx
  obtain ⟨l, ts, ht⟩ := x
  dsimp only at hlen hlow htl
  have hml : (ts.map txT).length = ts.length := List.length_map ..
  obtain ⟨R, hR⟩ : ∃ R, blkV nmH ht l ts true [] = R := ⟨_, rfl⟩
  simp only [bkH, bkN, bk1, h32T, hR]
  refine AWP.weak (Weak.ownBx (v' := _) 5 [] 0 (.sq 37 []) rfl (by simp only [W, eqq, ↓reduceIte, Nat.reduceEqDiff, Nat.reduceLT, Nat.reduceLeDiff, Nat.reduceAdd, Nat.reduceMul, Nat.reduceSub, Nat.reduceBEq, Int.reduceLE, Int.reduceLT, Int.reduceNeg, Int.reduceToNat, Int.reduceEq, Int.reduceBEq, Int.reduceBNe, Nat.reduceBNe, bne_self_eq_false, reduceCtorEq, gt_iff_lt, ge_iff_le]) (by simp only [W, eqq, ↓reduceIte, Nat.reduceEqDiff, Nat.reduceLT, Nat.reduceLeDiff, Nat.reduceAdd, Nat.reduceMul, Nat.reduceSub, Nat.reduceBEq, Int.reduceLE, Int.reduceLT, Int.reduceNeg, Int.reduceToNat, Int.reduceEq, Int.reduceBEq, Int.reduceBNe, Nat.reduceBNe, bne_self_eq_false, reduceCtorEq, gt_iff_lt, ge_iff_le]) (by simp only [W, eqq, ↓reduceIte, Nat.reduceEqDiff, Nat.reduceLT, Nat.reduceLeDiff, Nat.reduceAdd, Nat.reduceMul, Nat.reduceSub, Nat.reduceBEq, Int.reduceLE, Int.reduceLT, Int.reduceNeg, Int.reduceToNat, Int.reduceEq, Int.reduceBEq, Int.reduceBNe, Nat.reduceBNe, bne_self_eq_false, reduceCtorEq, gt_iff_lt, ge_iff_le]; rfl) (.inr ⟨_, by decide, rfl⟩)) ?_
  refine AWP.weak (Weak.moveBx (v' := _) 0 1 [0] 0 _ rfl rfl rfl (by decide) (by simp only [W, eqq, ↓reduceIte, Nat.reduceEqDiff, Nat.reduceLT, Nat.reduceLeDiff, Nat.reduceAdd, Nat.reduceMul, Nat.reduceSub, Nat.reduceBEq, Int.reduceLE, Int.reduceLT, Int.reduceNeg, Int.reduceToNat, Int.reduceEq, Int.reduceBEq, Int.reduceBNe, Nat.reduceBNe, bne_self_eq_false, reduceCtorEq, gt_iff_lt, ge_iff_le]) (by simp only [W, eqq, ↓reduceIte, Nat.reduceEqDiff, Nat.reduceLT, Nat.reduceLeDiff, Nat.reduceAdd, Nat.reduceMul, Nat.reduceSub, Nat.reduceBEq, Int.reduceLE, Int.reduceLT, Int.reduceNeg, Int.reduceToNat, Int.reduceEq, Int.reduceBEq, Int.reduceBNe, Nat.reduceBNe, bne_self_eq_false, reduceCtorEq, gt_iff_lt, ge_iff_le]) (by simp only [W, eqq, ↓reduceIte, Nat.reduceEqDiff, Nat.reduceLT, Nat.reduceLeDiff, Nat.reduceAdd, Nat.reduceMul, Nat.reduceSub, Nat.reduceBEq, Int.reduceLE, Int.reduceLT, Int.reduceNeg, Int.reduceToNat, Int.reduceEq, Int.reduceBEq, Int.reduceBNe, Nat.reduceBNe, bne_self_eq_false, reduceCtorEq, gt_iff_lt, ge_iff_le]; rfl)) ?_
  repeat refine St (And.intro (And.intro @gentry.eq_1 <| @gentry.eq_2) <| hml) ct33 ?_
  refine AWP.loop (G := { x : Nat × List TCoin × List TCoin // x.1 ≤ ts.length ∧ x.2.1.length ≤ 400000 + 20 * x.1 ∧ lowL x.2.1 = true ∧ x.2.2.length ≤ 20 * x.1 ∧ blkV nmH ht x.2.1 (ts.drop x.1) (decide (x.1 = 0)) x.2.2 = R }) (fun x => ⟨[(0, .ptr 0 0 []), (1, .ptr 2 0 []), (2, .ptr 3 0 []), (3, .ptr 4 0 []), (4, .ptr 5 0 []), (11, .t (txsT ts)), (12, .t (.int .i64 (ts.length : Int))), (13, .t (.int .i64 (x.1.1 : Int)))], [.bx (.st [.own 6]), .no, .bx (.t (txsT ts)), .bx (.t (.fn 31)), .bx (.t (.int .u32 (ht.toNat : Int))), .bx (.own 7), .sq 37 (x.1.2.1.map coinT), .sq 37 (x.1.2.2.map coinT)]⟩) (fun x => ts.length - x.1.1) ⟨⟨0, l, []⟩, Nat.zero_le _, by show l.length ≤ 400000 + 20 * 0; omega, hlow, Nat.le_refl _, hR⟩ (Wt (@List.map_nil.{0, 0}) [0, 1, 2, 3, 4, 11, 12, 13] [0, 1, 2, 3, 4, 5, 7, 6]) ?_
  rintro ⟨⟨i, L, A⟩, hi, hL, hLl, hA, hT⟩
  dsimp only at hi hL hLl hA hT ⊢
  clear hR hlen hlow
  have hmA : (A.map coinT).length ≤ 1000000 := by rw [List.length_map]; omega
  by_cases hlt : i < ts.length
  · have hlt2 : (i : Int) < (ts.length : Int) := by omega
    have hw1 : IntKind.i64.wrap ((i : Int) + 1) = ((i + 1 : Nat) : Int) := by rw [wrap_i64 (by omega) (by omega)]; omega
    have hb0 : ((i : Int) == 0) = decide (i = 0) := by
      rw [Bool.eq_iff_iff, beq_iff_eq, decide_eq_true_eq]; omega
    have hg := txs_getD ts i hlt
    have hdr : ts.drop i = ts.getD i dTx :: ts.drop (i + 1) := by
      rw [List.drop_eq_getElem_cons hlt]
      simp [List.getD_eq_getElem?_getD, hlt]
    rw [hdr, blkV] at hT
    have hap := apply_vc L (ts.getD i dTx) ht (decide (i = 0)) (by omega) hLl
    obtain ⟨a1, a2, a3, a4⟩ := applyV_ok hLl (ts.getD i dTx) (nmH (ts.getD i dTx)) ht (decide (i = 0))
    rw [txT_st] at hg hap
    generalize ts.getD i dTx = t at *
    obtain ⟨f, hfi⟩ : ∃ f, decide (i = 0) = f := ⟨_, rfl⟩
    rw [hfi] at hap a1 a2 a3 a4 hT hb0
    generalize applyV L t (nmH t) ht f = Z at *
    obtain ⟨L', sp, e⟩ := Z
    dsimp only at hT hap a1 a2 a3 a4
    simp only [vwN] at hap
    by_cases he : e = 0
    · subst he
      rw [if_neg (by simp)] at hT
      have hd0 : ((0 : Int) != 0) = false := rfl
      have hmap : (A ++ sp).map coinT = A.map coinT ++ sp.map coinT := List.map_append ..
      have hms : (sp.map coinT).length ≤ 1000000 := by rw [List.length_map]; omega
      have hf2 : decide (i + 1 = 0) = false := by simp
      generalize A.map coinT = X at *
      generalize sp.map coinT = Y at *
      repeat refine St (And.intro hlt <| And.intro hlt2 <| And.intro hml <| And.intro hw1 <| And.intro hb0 <| And.intro hg <| And.intro hap <| And.intro hmA <| And.intro hms <| hd0) ct33 ?_
      exact ⟨⟨⟨i + 1, L', A ++ sp⟩, by show i + 1 ≤ ts.length; omega, by show L'.length ≤ 400000 + 20 * (i + 1); omega, a1, by show (A ++ sp).length ≤ 20 * (i + 1); rw [List.length_append]; omega, by dsimp only; rw [hf2]; exact hT⟩, (Wt hmap [0, 1, 2, 3, 4, 11, 12, 13] [0, 1, 2, 3, 4, 5, 9, 10]), by simp only; omega⟩
    · rw [if_pos he] at hT
      have he2 : (e != 0) = true := by simpa using he
      subst hT
      dsimp only
      repeat refine St (And.intro hlt <| And.intro hlt2 <| And.intro hml <| And.intro hw1 <| And.intro hb0 <| And.intro hg <| And.intro hap <| he2) ct33 ?_
      refine AWP.weak (Weak.trans (Weak.freeze 7) (Weak.thawBx 5 (y := .sq 37 (A.map coinT)) rfl rfl)) ?_
      exact AWP.ret (Fin trivial [] [0, 1, 2, 3, 4, 5, 9])
  obtain rfl : i = ts.length := by omega
  have hlt2 : ¬ (ts.length : Int) < (ts.length : Int) := by omega
  rw [List.drop_length, blkV] at hT
  subst hT
  dsimp only
  repeat refine St hlt2 ct33 ?_
  refine AWP.weak (Weak.trans (Weak.freeze 7) (Weak.thawBx 5 (y := .sq 37 (A.map coinT)) rfl rfl)) ?_
  exact AWP.ret (Fin trivial [] [0, 1, 2, 3, 4, 5, 6])

end Go.Fw

end

section
/- view: the trial of a block; Block. -/
namespace Go.Fw
open Go Go.Proofs
set_option linter.unusedVariables false
set_option linter.unusedSimpArgs false

theorem bk1_c (x : BkX) (h : x.l.length ≤ 400000) (h2 : lowL x.l = true) (h3 : x.ts.length ≤ 10000) : G33 (bkH x) [.ptr 0 0 [], .ptr 2 0 [], .ptr 3 0 [], .ptr 4 0 [], .ptr 5 0 []] = some (bkN x (bk1 x).1 (bk1 x).2.1, .t (.int .i64 (bk1 x).2.2)) := by
  simp only [G33, inv_of bkH_inj]
  exact if_pos ⟨h, h2, h3⟩

/-- The trial of Block. -/
noncomputable def G32B : GFun
  | HB, [.ptr 0 0 [], .clo 33 [.ptr 2 0 [], .ptr 3 0 [], .ptr 4 0 [], .ptr 5 0 []]] => match inv bkH HB with
    | some x => @ite _ ((x.l.length ≤ 400000 ∧ lowL x.l = true ∧ x.ts.length ≤ 10000)) (Classical.propDecidable _) ((some (bkN x (if (bk1 x).2.2 = 0 then (bk1 x).1 else x.l) (bk1 x).2.1, .t (.int .i64 (bk1 x).2.2)))) none
    | none => none
  | _, _ => none

theorem ct32B : CT [(33, ⟨[true, true, true, true, true], G33⟩), (47, ⟨[true], G47⟩)] [0, 1, 4, 5, 6, 18] [] := ⟨(.cons g33 (.cons g47 (.nil _)))⟩

set_option maxHeartbeats 4000000 in
theorem g32B : GCon Try.prog 32 G32B := by
  refine gconc E_ok (rs := [.tmp 4 30]) Try.func32 rfl Try.ntmps32 (by kernel_rfl) rfl (by decide) G32B (np := 2) ?_ ?_
  · intro HB xs h; unfold G32B; split <;> first | rfl | (simp at h; done)
  intro HB xs H r hG hwf hex
  unfold G32B at hG
  split at hG <;> try (cases hG; done)
  
  split at hG <;> try (cases hG; done)
  rename_i x hx
  split at hG
  case isFalse => cases hG
  rename_i hcc
  cases hG
  obtain ⟨hlen, hlow, htl⟩ := hcc
  obtain rfl := inv_inv hx
  have h := bk1_c x hlen hlow htl
  have hcl := clone_vc x.l (by omega)
  generalize bk1 x = R at *
  obtain ⟨l, ts, ht⟩ := x
  obtain ⟨L, sp, e⟩ := R
  dsimp only at h hcl ⊢
  simp only [bkH, bkN, h32T, txsT] at h ⊢
  by_cases he : e = 0
  · subst he
    rw [if_pos rfl]
    have he2 : ((0 : Int) == 0) = true := rfl
    repeat refine St (And.intro (And.intro @gentry.eq_1 <| @gentry.eq_2) <| And.intro hcl <| And.intro h <| he2) ct32B ?_
    refine AWP.weak (Weak.drop 1 _ rfl rfl) ?_
    exact AWP.ret (Fin trivial [] [0, 1, 2, 3, 4, 5, 8])
  · rw [if_neg he]
    have he2 : (e == 0) = false := by simpa using he
    repeat refine St (And.intro (And.intro @gentry.eq_1 <| @gentry.eq_2) <| And.intro hcl <| And.intro h <| he2) ct32B ?_
    refine AWP.weak (Weak.moveBx (v' := _) 0 1 [0] 0 _ rfl rfl rfl (by decide) (by simp only [W, eqq, ↓reduceIte, Nat.reduceEqDiff, Nat.reduceLT, Nat.reduceLeDiff, Nat.reduceAdd, Nat.reduceMul, Nat.reduceSub, Nat.reduceBEq, Int.reduceLE, Int.reduceLT, Int.reduceNeg, Int.reduceToNat, Int.reduceEq, Int.reduceBEq, Int.reduceBNe, Nat.reduceBNe, bne_self_eq_false, reduceCtorEq, gt_iff_lt, ge_iff_le]) (by simp only [W, eqq, ↓reduceIte, Nat.reduceEqDiff, Nat.reduceLT, Nat.reduceLeDiff, Nat.reduceAdd, Nat.reduceMul, Nat.reduceSub, Nat.reduceBEq, Int.reduceLE, Int.reduceLT, Int.reduceNeg, Int.reduceToNat, Int.reduceEq, Int.reduceBEq, Int.reduceBNe, Nat.reduceBNe, bne_self_eq_false, reduceCtorEq, gt_iff_lt, ge_iff_le]) (by simp only [W, eqq, ↓reduceIte, Nat.reduceEqDiff, Nat.reduceLT, Nat.reduceLeDiff, Nat.reduceAdd, Nat.reduceMul, Nat.reduceSub, Nat.reduceBEq, Int.reduceLE, Int.reduceLT, Int.reduceNeg, Int.reduceToNat, Int.reduceEq, Int.reduceBEq, Int.reduceBNe, Nat.reduceBNe, bne_self_eq_false, reduceCtorEq, gt_iff_lt, ge_iff_le]; rfl)) ?_
    exact AWP.ret (Fin trivial [] [0, 1, 2, 3, 4, 5, 9])

theorem trialB_c (x : BkX) (h : x.l.length ≤ 400000) (h2 : lowL x.l = true) (h3 : x.ts.length ≤ 10000) : G32B (bkH x) [.ptr 0 0 [], .clo 33 [.ptr 2 0 [], .ptr 3 0 [], .ptr 4 0 [], .ptr 5 0 []]] = some (bkN x (if (bk1 x).2.2 = 0 then (bk1 x).1 else x.l) (bk1 x).2.1, .t (.int .i64 (bk1 x).2.2)) := by
  simp only [G32B, inv_of bkH_inj]
  exact if_pos ⟨h, h2, h3⟩

/-- A block applied, or nothing changed. -/
noncomputable def blockV (l : List TCoin) (ts : List TTx) (ht : UInt32) : List TCoin × List TCoin × Int :=
  (if (bk1 ⟨l, ts, ht⟩).2.2 = 0 then (bk1 ⟨l, ts, ht⟩).1 else l, if (bk1 ⟨l, ts, ht⟩).2.2 = 0 then (bk1 ⟨l, ts, ht⟩).2.1 else [], (bk1 ⟨l, ts, ht⟩).2.2)
noncomputable def G17B : GFun
  | HB, [.ptr 0 0 [], .t x, .t y] => match inv vwH HB, inv txsT x, inv h32T y with
    | some l, some ts, some ht => @ite _ ((l.length ≤ 400000 ∧ lowL l = true ∧ ts.length ≤ 10000)) (Classical.propDecidable _) ((some (vwN (blockV l ts ht).1, .tup [.t (.sq 37 ((blockV l ts ht).2.1.map coinT)), .t (.int .i64 (blockV l ts ht).2.2)]))) none
    | _, _, _ => none
  | _, _ => none

theorem ct17B : CT [(31, ⟨[true, false, false, false], G31⟩), (32, ⟨[true, true], G32B⟩)] [0, 1, 2, 4, 5, 6, 7, 8, 9, 10, 12, 17] [] := ⟨(.cons g31 (.cons g32B (.nil _)))⟩

set_option maxHeartbeats 4000000 in
theorem g17B : GCon Try.prog 17 G17B := by
  refine gconc E_ok (rs := [.tmp 6 22, .tmp 7 30]) Try.func17 rfl Try.ntmps17 (by kernel_rfl) rfl (by decide) G17B (np := 3) ?_ ?_
  · intro HB xs h; unfold G17B; split <;> first | rfl | (simp at h; done)
  intro HB xs H r hG hwf hex
  unfold G17B at hG
  split at hG <;> try (cases hG; done)
  
  rename_i x y
  split at hG <;> try (cases hG; done)
  rename_i l ts ht hl htx hht
  split at hG
  case isFalse => cases hG
  rename_i hcc
  cases hG
  obtain ⟨hlen, hlow, htl⟩ := hcc
  obtain rfl := inv_inv hl
  obtain rfl := inv_inv htx
  obtain rfl := inv_inv hht
  have h := trialB_c ⟨l, ts, ht⟩ hlen hlow htl
  unfold blockV
  generalize bk1 ⟨l, ts, ht⟩ = R at *
  obtain ⟨L, sp, e⟩ := R
  dsimp only at h ⊢
  by_cases he : e = 0
  · subst he
    rw [if_pos rfl] at h
    rw [if_pos rfl, if_pos rfl]
    have he2 : ((0 : Int) != 0) = false := rfl
    simp only [vwH, bkH, bkN, h32T, txsT] at h ⊢
    repeat refine St (And.intro (And.intro @gentry.eq_1 <| @gentry.eq_2) <| And.intro h <| he2) ct17B ?_
    exact AWP.ret (Fin @vwN.eq_def [] [0, 1, 6])
  · rw [if_neg he] at h
    rw [if_neg he, if_neg he]
    have he2 : (e != 0) = true := by simpa using he
    simp only [vwH, bkH, bkN, h32T, txsT] at h ⊢
    repeat refine St (And.intro (And.intro @gentry.eq_1 <| @gentry.eq_2) <| And.intro h <| he2) ct17B ?_
    exact AWP.ret (Fin (And.intro @vwN.eq_def <| @List.map_nil.{0, 0}) [] [0, 1, 6])
theorem block_c (l : List TCoin) (ts : List TTx) (ht : UInt32) (h : l.length ≤ 400000) (h2 : lowL l = true) (h3 : ts.length ≤ 10000) : G17B [.bx (.st [.own 1]), .sq 37 (l.map coinT)] [.ptr 0 0 [], .t (.sq 4 (ts.map txT)), .t (.int .u32 (ht.toNat : Int))] = some (vwN (blockV l ts ht).1, .tup [.t (.sq 37 ((blockV l ts ht).2.1.map coinT)), .t (.int .i64 (blockV l ts ht).2.2)]) := by
  show G17B (vwH l) [.ptr 0 0 [], .t (txsT ts), .t (h32T ht)] = _
  simp only [G17B, inv_of vwH_inj, inv_of txsT_inj, inv_of h32T_inj]
  exact if_pos ⟨h, h2, h3⟩

end Go.Fw

end

section
/- view: what Revert asks of what was spent. -/
namespace Go.Fw
open Go Go.Proofs
set_option linter.unusedVariables false
set_option linter.unusedSimpArgs false

noncomputable def F48 : Fun
  | [x, y] => match inv coinT x, inv rfT y with
    | some c, some r => some ([], .t (.bool (refB c.r r)))
    | _, _ => none
  | _ => none

theorem ct48 : CT [] [0, 1, 2, 3, 4] [] := ⟨GClOk.nil _⟩

theorem c48 : ACon Try.prog 48 F48 := by
  refine aconc E_ok (rs := [.tmp 4 4]) Try.func48 rfl Try.ntmps48 (by kernel_rfl) rfl (by decide) F48 (np := 2) ?_ ?_
  · intro ts h; unfold F48; split <;> first | rfl | (simp at h; done)
  intro ts H r hF hwf
  unfold F48 at hF
  split at hF <;> try (cases hF; done)
  split at hF <;> try (cases hF; done)
  rename_i c r hc hr
  cases hF
  obtain rfl := inv_inv hc
  obtain rfl := inv_inv hr
  have he : refB c.r r = (c.r.h.1 == r.h.1 && ((c.r.i.toNat : Int) == (r.i.toNat : Int))) := rfl
  rw [he]
  simp only [coinT_st, rfT]
  repeat refine St trivial ct48 ?_
  exact AWP.ret (Fin trivial [] [])
theorem rev1_c (c : TCoin) (r : TRef) : F48 [.st [.st [.ba 32 c.r.h.1, .int .u32 (c.r.i.toNat : Int)], .st [.int .u64 (c.out.val.toNat : Int), .by c.out.scr], .int .u32 (c.ht.toNat : Int), .bool c.first], .st [.ba 32 r.h.1, .int .u32 (r.i.toNat : Int)]] = some ([], .t (.bool (refB c.r r))) := by
  show F48 [coinT c, rfT r] = _
  simp only [F48, inv_of coinT_inj, inv_of rfT_inj]

noncomputable def F49 : Fun
  | [x, y, .fn 48] => match inv coinsT x, inv refsT y with
    | some l, some r => @ite _ ((l.length ≤ 1000000 ∧ r.length ≤ 1000000)) (Classical.propDecidable _) ((some ([], .t (.bool (eqRefs l r))))) none
    | _, _ => none
  | _ => none

theorem ct49 : CT [(48, ⟨[false, false], treeG F48⟩)] [0, 1, 2, 6, 7, 8, 9, 14, 15, 16, 17, 18, 30] [] := ⟨(.cons c48.g (.nil _))⟩

set_option maxHeartbeats 2000000 in
theorem c49 : ACon Try.prog 49 F49 := by
  refine aconc E_ok (rs := [.tmp 6 4]) Try.func49 rfl Try.ntmps49 (by kernel_rfl) rfl (by decide) F49 (np := 3) ?_ ?_
  · intro ts h; unfold F49; split <;> first | rfl | (simp at h; done)
  intro ts H r hF hwf
  unfold F49 at hF
  split at hF <;> try (cases hF; done)
  split at hF <;> try (cases hF; done)
  rename_i l r hl hr
  split at hF
  case isFalse => cases hF
  rename_i hcc
  obtain ⟨hl1, hl2⟩ := hcc
  cases hF
  obtain rfl := inv_inv hl
  obtain rfl := inv_inv hr
  have hml : (l.map coinT).length = l.length := List.length_map ..
  have hmr : (r.map rfT).length = r.length := List.length_map ..
  simp only [coinsT, refsT]
  by_cases hne : l.length = r.length
  rotate_left
  · have hb : ((l.length : Int) != (r.length : Int)) = true := by
      rw [bne_iff_ne]; omega
    rw [eqRefs_len hne]
    repeat refine St (And.intro hml <| And.intro hmr <| hb) ct49 ?_
    exact AWP.ret (Fin trivial [] [])
  have hb : ((l.length : Int) != (r.length : Int)) = false := by
    rw [bne_eq_false_iff_eq]; omega
  obtain ⟨R, hR⟩ : ∃ R, eqRefs l r = R := ⟨_, rfl⟩
  rw [hR]
  repeat refine St (And.intro hml <| And.intro hmr <| hb) ct49 ?_
  refine AWP.loop (G := { i : Nat // i ≤ l.length ∧ eqRefs (l.drop i) (r.drop i) = R }) (fun i => ⟨[(1, .t (.sq 33 (r.map rfT))), (2, .t (.fn 48)), (15, .t (.sq 37 (l.map coinT))), (16, .t (.int .i64 (l.length : Int))), (17, .t (.int .i64 (i.1 : Int)))], []⟩) (fun i => l.length - i.1) ⟨0, Nat.zero_le _, hR⟩ (Wt trivial [1, 2, 15, 16, 17] []) ?_
  rintro ⟨i, hi, hT⟩
  dsimp only
  by_cases hlt : i < l.length
  · have hlt2 : (i : Int) < (l.length : Int) := by omega
    have hltr : i < r.length := by omega
    have hltr2 : (i : Int) < (r.length : Int) := by omega
    have hw1 : IntKind.i64.wrap ((i : Int) + 1) = ((i + 1 : Nat) : Int) := by rw [wrap_i64 (by omega) (by omega)]; omega
    have hg := coin_getD l i hlt
    have hg2 := ref_getD r i hltr
    have hd1 : l.drop i = l.getD i dCoin :: l.drop (i + 1) := by
      rw [List.drop_eq_getElem_cons hlt]
      simp [List.getD_eq_getElem?_getD, hlt]
    have hd2 : r.drop i = r.getD i dRef :: r.drop (i + 1) := by
      rw [List.drop_eq_getElem_cons hltr]
      simp [List.getD_eq_getElem?_getD, hltr]
    rw [hd1, hd2, eqRefs] at hT
    have h1 := rev1_c (l.getD i dCoin) (r.getD i dRef)
    rw [coinT_st] at hg
    simp only [rfT] at hg2
    generalize l.getD i dCoin = c at *
    generalize r.getD i dRef = q at *
    cases hq : refB c.r q with
    | false =>
      rw [hq] at h1
      rw [hq, Bool.false_and] at hT
      subst hT
      repeat refine St (And.intro hlt <| And.intro hlt2 <| And.intro hltr <| And.intro hltr2 <| And.intro hml <| And.intro hmr <| And.intro hw1 <| And.intro hg <| And.intro hg2 <| h1) ct49 ?_
      exact AWP.ret (Fin trivial [] [])
    | true =>
      rw [hq] at h1
      rw [hq, Bool.true_and] at hT
      repeat refine St (And.intro hlt <| And.intro hlt2 <| And.intro hltr <| And.intro hltr2 <| And.intro hml <| And.intro hmr <| And.intro hw1 <| And.intro hg <| And.intro hg2 <| h1) ct49 ?_
      exact ⟨⟨i + 1, by omega, hT⟩, (Wt trivial [1, 2, 15, 16, 17] []), by simp only; omega⟩
  obtain rfl : i = l.length := by omega
  have hlt2 : ¬ (l.length : Int) < (l.length : Int) := by omega
  rw [List.drop_length, List.drop_of_length_le (show r.length ≤ l.length by omega), eqRefs] at hT
  subst hT
  repeat refine St hlt2 ct49 ?_
  exact AWP.ret (Fin trivial [] [])
theorem eqf_c (l : List TCoin) (r : List TRef) (h : l.length ≤ 1000000) (h2 : r.length ≤ 1000000) : F49 [.sq 37 (l.map coinT), .sq 33 (r.map rfT), .fn 48] = some ([], .t (.bool (eqRefs l r))) := by
  show F49 [coinsT l, refsT r, .fn 48] = _
  simp only [F49, inv_of coinsT_inj, inv_of refsT_inj]
  exact if_pos ⟨h, h2⟩

noncomputable def F50 : Fun
  | [x] => match inv coinsT x with
    | some l => some ([.bx (.t (coinsT l))], .clo 59 [.ptr 0 0 []])
    | none => none
  | _ => none

theorem ct50 : CT [] [0, 1, 2] [] := ⟨GClOk.nil _⟩

theorem c50 : ACon Try.prog 50 F50 := by
  refine aconc E_ok (rs := [.tmp 2 99]) Try.func50 rfl Try.ntmps50 (by kernel_rfl) rfl (by decide) F50 (np := 1) ?_ ?_
  · intro ts h; unfold F50; split <;> first | rfl | (simp at h; done)
  intro ts H r hF hwf
  unfold F50 at hF
  split at hF <;> try (cases hF; done)
  split at hF <;> try (cases hF; done)
  rename_i l hl
  cases hF
  obtain rfl := inv_inv hl
  simp only [coinsT]
  repeat refine St trivial ct50 ?_
  exact AWP.ret (Fin trivial [] [0])
theorem bwd_c (l : List TCoin) : F50 [.sq 37 (l.map coinT)] = some ([.bx (.t (.sq 37 (l.map coinT)))], .clo 59 [.ptr 0 0 []]) := by
  show F50 [coinsT l] = _
  simp only [F50, inv_of coinsT_inj]
  rfl

end Go.Fw

end
