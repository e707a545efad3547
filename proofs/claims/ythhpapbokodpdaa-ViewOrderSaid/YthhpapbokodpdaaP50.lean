/- The abstract machine, and the contracts of the code: part 50. -/
import Derived.Test.YthhpapbokodpdaaP49

section
/- Coins in order: a place is where a Ref stands, or would. Plain laws. -/
namespace Go.Fw
open Go
set_option linter.unusedVariables false
set_option linter.unusedSimpArgs false

theorem cmpL_rev : ∀ x y : List UInt8, cmpL y x = - cmpL x y
  | [], [] => rfl
  | [], _ :: _ => rfl
  | _ :: _, [] => rfl
  | u :: x, v :: y => by
    unfold cmpL
    by_cases h : u = v
    · subst h
      rw [if_pos rfl, if_pos rfl, cmpL_rev x y]
    · rw [if_neg h, if_neg (Ne.symm h)]
      by_cases h2 : u < v
      · rw [if_pos h2, if_neg (fun h3 => by have := UInt8.lt_asymm h2 h3; exact this)]; rfl
      · have h3 : v < u := by
          rcases UInt8.lt_or_lt_of_ne h with h4 | h4
          · exact (h2 h4).elim
          · exact h4
        rw [if_neg h2, if_pos h3]
theorem cmpL_trans : ∀ x y z : List UInt8, cmpL x y < 0 → cmpL y z < 0 → cmpL x z < 0
  | [], [], _, h, _ => by simp [cmpL] at h
  | [], _ :: _, [], _, h => by simp [cmpL] at h
  | [], _ :: _, _ :: _, _, _ => by simp [cmpL]
  | _ :: _, [], _, h, _ => by simp [cmpL] at h
  | _ :: _, _ :: _, [], _, h => by simp [cmpL] at h
  | u :: x, v :: y, w :: z, h, k => by
    unfold cmpL at h k ⊢
    by_cases h1 : u = v
    · subst h1
      rw [if_pos rfl] at h
      by_cases h2 : u = w
      · subst h2
        rw [if_pos rfl] at k ⊢
        exact cmpL_trans x y z h k
      · rw [if_neg h2] at k ⊢
        exact k
    · rw [if_neg h1] at h
      have h3 : u < v := by
        by_cases h4 : u < v
        · exact h4
        · rw [if_neg h4] at h; simp at h
      by_cases h2 : v = w
      · subst h2
        rw [if_neg h1, if_pos h3]; decide
      · rw [if_neg h2] at k
        have h5 : v < w := by
          by_cases h4 : v < w
          · exact h4
          · rw [if_neg h4] at k; simp at k
        have h6 : u < w := UInt8.lt_trans h3 h5
        rw [if_neg (fun e => by subst e; exact UInt8.lt_irrefl _ h6), if_pos h6]; decide
theorem cmpI_rev (a b : Int) : cmpI b a = - cmpI a b := by
  unfold cmpI
  split <;> split <;> first | rfl | omega
theorem cmpI_zero {a b : Int} (h : cmpI a b = 0) : a = b := by
  unfold cmpI at h
  split at h
  · cases h
  · split at h
    · cases h
    · omega
theorem cmpI_neg {a b : Int} : cmpI a b < 0 ↔ a < b := by
  unfold cmpI
  split
  · simp [*]
  · split <;> simp <;> omega
theorem cmpR_self (a : TRef) : cmpR a a = 0 := by
  unfold cmpR
  rw [if_pos (cmpL_self _)]
  unfold cmpI
  rw [if_neg (by omega), if_neg (by omega)]
theorem cmpR_rev (a b : TRef) : cmpR b a = - cmpR a b := by
  unfold cmpR
  rw [cmpL_rev a.h.1 b.h.1, cmpI_rev (a.i.toNat : Int)]
  by_cases h : cmpL a.h.1 b.h.1 = 0
  · rw [if_pos (by omega), if_pos h]
  · rw [if_neg (by omega), if_neg h]
theorem cmpR_eq {a b : TRef} (h : cmpR a b = 0) : a = b := by
  obtain ⟨⟨h1, g1⟩, i1⟩ := a
  obtain ⟨⟨h2, g2⟩, i2⟩ := b
  unfold cmpR at h
  dsimp only at h
  split at h
  · rename_i h0
    have e := cmpL_eq _ _ h0
    subst e
    have e := cmpI_zero h
    have e2 : i1 = i2 := UInt32.toNat_inj.1 (by omega)
    subst e2
    rfl
  · rename_i h0
    exact (h0 h).elim
theorem cmpR_iff {a b : TRef} : cmpR a b = 0 ↔ a = b := ⟨cmpR_eq, fun h => by rw [h]; exact cmpR_self b⟩
theorem cmpR_trans {a b c : TRef} (h : cmpR a b < 0) (k : cmpR b c < 0) : cmpR a c < 0 := by
  unfold cmpR at h k ⊢
  by_cases h1 : cmpL a.h.1 b.h.1 = 0
  · have e := cmpL_eq _ _ h1
    rw [if_pos h1] at h
    rw [e]
    by_cases h2 : cmpL b.h.1 c.h.1 = 0
    · rw [if_pos h2] at k ⊢
      have := cmpI_neg.1 h
      have := cmpI_neg.1 k
      exact cmpI_neg.2 (by omega)
    · rw [if_neg h2] at k ⊢
      exact k
  · rw [if_neg h1] at h
    by_cases h2 : cmpL b.h.1 c.h.1 = 0
    · have e := cmpL_eq _ _ h2
      rw [← e, if_neg h1]
      exact h
    · rw [if_neg h2] at k
      have := cmpL_trans _ _ _ h k
      rw [if_neg (by omega)]
      exact this

/-- Coins in order. -/
def Srt (l : List TCoin) : Prop := l.Pairwise fun a b => cmpR a.r b.r < 0
theorem Srt.nil : Srt [] := List.Pairwise.nil
theorem Srt.at {l : List TCoin} (h : Srt l) {i j : Nat} (hij : i < j) (hj : j < l.length) : cmpR (l.getD i dCoin).r (l.getD j dCoin).r < 0 := by
  have := (List.pairwise_iff_getElem.1 h) i j (by omega) hj hij
  simpa [List.getD_eq_getElem?_getD, List.getElem?_eq_getElem hj, List.getElem?_eq_getElem (show i < l.length by omega)] using this

theorem bs_inv (f : Nat → Int) (N : Nat) (mono : ∀ a b, a ≤ b → b < N → f b < 0 → f a < 0) : ∀ (n i j : Nat), j - i < n → i ≤ j → j ≤ N → (∀ k, k < i → f k < 0) → (∀ k, j ≤ k → k < N → ¬ f k < 0) →
    (∀ k, k < bsN f n i j → f k < 0) ∧ ∀ k, bsN f n i j ≤ k → k < N → ¬ f k < 0
  | 0, _, _, h, _, _, _, _ => by omega
  | n + 1, i, j, h, hij, hN, h1, h2 => by
    unfold bsN
    by_cases hlt : i < j
    · rw [if_pos hlt]
      by_cases hm : f ((i + j) / 2) < 0
      · rw [if_pos hm]
        exact bs_inv f N mono n _ _ (by omega) (by omega) hN (fun k hk => mono k ((i + j) / 2) (by omega) (by omega) hm) h2
      · rw [if_neg hm]
        exact bs_inv f N mono n _ _ (by omega) (by omega) (by omega) h1 (fun k hk hkN hf => hm (mono _ k (by omega) hkN hf))
    · rw [if_neg hlt]
      exact ⟨h1, fun k hk => h2 k (by omega)⟩

theorem Srt.mono {l : List TCoin} (h : Srt l) (r : TRef) (a b : Nat) (hab : a ≤ b) (hb : b < l.length) (hf : cmpR (l.getD b dCoin).r r < 0) : cmpR (l.getD a dCoin).r r < 0 := by
  rcases Nat.lt_or_eq_of_le hab with h1 | h1
  · exact cmpR_trans (h.at h1 hb) hf
  · rw [h1]; exact hf
theorem plN_spec {l : List TCoin} (h : Srt l) (r : TRef) : (∀ k, k < plN l r → cmpR (l.getD k dCoin).r r < 0) ∧ ∀ k, plN l r ≤ k → k < l.length → ¬ cmpR (l.getD k dCoin).r r < 0 :=
  bs_inv (fun k => cmpR (l.getD k dCoin).r r) l.length (fun a b => h.mono r a b) (l.length + 1) 0 l.length (by omega) (by omega) (Nat.le_refl _) (fun k hk => by omega) (fun k h1 h2 => by omega)
theorem plN_uniq {l : List TCoin} (h : Srt l) {r : TRef} {i : Nat} (hi : i ≤ l.length) (h1 : ∀ k, k < i → cmpR (l.getD k dCoin).r r < 0) (h2 : ∀ k, i ≤ k → k < l.length → ¬ cmpR (l.getD k dCoin).r r < 0) : plN l r = i := by
  obtain ⟨g1, g2⟩ := plN_spec h r
  have hle := plN_le l r
  rcases Nat.lt_trichotomy (plN l r) i with h3 | h3 | h3
  · exact (g2 _ (Nat.le_refl _) (by omega) (h1 _ h3)).elim
  · exact h3
  · exact (h2 i (Nat.le_refl _) (by omega) (g1 i h3)).elim
theorem plB_ref {l : List TCoin} {r : TRef} (h : plB l r = true) : (l.getD (plN l r) dCoin).r = r := by
  unfold plB at h
  rw [Bool.and_eq_true, decide_eq_true_eq, decide_eq_true_eq] at h
  exact cmpR_eq h.2
/-- A coin stands at its own place. -/
theorem plN_own {l : List TCoin} (h : Srt l) {i : Nat} (hi : i < l.length) : plN l (l.getD i dCoin).r = i :=
  plN_uniq h (by omega) (fun k hk => h.at hk hi) (fun k hk hkl hf => by
    rcases Nat.lt_or_eq_of_le hk with h1 | h1
    · have h2 := h.at h1 hkl
      rw [cmpR_rev] at h2
      omega
    · rw [← h1, cmpR_self] at hf; omega)
theorem plB_own {l : List TCoin} (h : Srt l) {i : Nat} (hi : i < l.length) : plB l (l.getD i dCoin).r = true := by
  unfold plB
  rw [plN_own h hi, decide_eq_true hi, cmpR_self]; rfl

/-! ### Adding, spending: in order, and one undoes the other. -/
theorem srt_take {l : List TCoin} (h : Srt l) (i : Nat) : Srt (l.take i) := List.Pairwise.sublist (List.take_sublist _ _) h
theorem srt_drop {l : List TCoin} (h : Srt l) (i : Nat) : Srt (l.drop i) := List.Pairwise.sublist (List.drop_sublist _ _) h
theorem srt_del {l : List TCoin} (h : Srt l) (i : Nat) : Srt (delC l i (i + 1)) := by
  have h2 : (delC l i (i + 1)).Sublist l := by
    unfold delC
    have h3 : (l.take i ++ l.drop (i + 1)).Sublist (l.take i ++ l.drop i) := List.Sublist.append_left (by
      rw [show l.drop (i + 1) = (l.drop i).drop 1 by rw [List.drop_drop]]
      exact List.drop_sublist _ _) _
    rwa [List.take_append_drop] at h3
  exact List.Pairwise.sublist h2 h
theorem mem_take_getD {l : List TCoin} {i : Nat} {a : TCoin} (h : a ∈ l.take i) : ∃ k, k < i ∧ k < l.length ∧ l.getD k dCoin = a := by
  obtain ⟨k, hk, rfl⟩ := List.mem_iff_getElem.1 h
  rw [List.length_take] at hk
  refine ⟨k, by omega, by omega, ?_⟩
  simp [List.getD_eq_getElem?_getD, List.getElem?_eq_getElem (show k < l.length by omega)]
theorem mem_drop_getD {l : List TCoin} {i : Nat} {a : TCoin} (h : a ∈ l.drop i) : ∃ k, i ≤ k ∧ k < l.length ∧ l.getD k dCoin = a := by
  obtain ⟨k, hk, rfl⟩ := List.mem_iff_getElem.1 h
  rw [List.length_drop] at hk
  refine ⟨i + k, by omega, by omega, ?_⟩
  simp [List.getD_eq_getElem?_getD, List.getElem?_eq_getElem (show i + k < l.length by omega)]
theorem not_plB {l : List TCoin} (h : Srt l) {r : TRef} (hb : plB l r = false) {k : Nat} (hk : plN l r ≤ k) (hkl : k < l.length) : cmpR r (l.getD k dCoin).r < 0 := by
  have h1 := (plN_spec h r).2
  have h2 := h1 (plN l r) (Nat.le_refl _) (by omega)
  unfold plB at hb
  rw [decide_eq_true (show plN l r < l.length by omega), Bool.true_and, decide_eq_false_iff_not] at hb
  have h3 : cmpR r (l.getD (plN l r) dCoin).r < 0 := by rw [cmpR_rev]; omega
  rcases Nat.lt_or_eq_of_le hk with h4 | h4
  · exact cmpR_trans h3 (h.at h4 hkl)
  · rw [← h4]; exact h3
theorem srt_ins {l : List TCoin} (h : Srt l) {c : TCoin} (hb : plB l c.r = false) : Srt (insC l (plN l c.r) c) := by
  unfold insC Srt
  rw [List.append_assoc, List.pairwise_append]
  refine ⟨srt_take h _, ?_, ?_⟩
  · rw [List.singleton_append, List.pairwise_cons]
    refine ⟨fun a ha => ?_, srt_drop h _⟩
    obtain ⟨k, h1, h2, rfl⟩ := mem_drop_getD ha
    exact not_plB h hb h1 h2
  · intro a ha b hb2
    obtain ⟨i, h1, h2, rfl⟩ := mem_take_getD ha
    have h3 := (plN_spec h c.r).1 i h1
    rw [List.singleton_append, List.mem_cons] at hb2
    rcases hb2 with rfl | hb2
    · exact h3
    · obtain ⟨k, h4, h5, rfl⟩ := mem_drop_getD hb2
      exact h.at (by omega) h5
theorem addV_srt {l : List TCoin} (h : Srt l) (c : TCoin) : Srt (addV l c).1 := by
  unfold addV
  cases hb : plB l c.r with
  | true => exact h
  | false => exact srt_ins h hb
theorem spdV_srt {l : List TCoin} (h : Srt l) (r : TRef) : Srt (spdV l r).1 := by
  unfold spdV
  split
  · exact srt_del h _
  · exact h

theorem insC_getD {l : List TCoin} {i : Nat} (hi : i ≤ l.length) (c : TCoin) : (insC l i c).getD i dCoin = c := by
  unfold insC
  rw [List.append_assoc, List.getD_eq_getElem?_getD, List.getElem?_append_right (by rw [List.length_take]; omega), List.length_take, Nat.min_eq_left hi]
  simp
theorem ins_del {l : List TCoin} {i : Nat} (hi : i ≤ l.length) (c : TCoin) : delC (insC l i c) i (i + 1) = l := by
  unfold delC insC
  have ht : (l.take i ++ [c] ++ l.drop i).take i = l.take i := by
    rw [List.append_assoc, List.take_append_of_le_length (by rw [List.length_take]; omega), List.take_take, Nat.min_self]
  have hd : (l.take i ++ [c] ++ l.drop i).drop (i + 1) = l.drop i := by
    rw [List.drop_append_of_le_length (by rw [List.length_append, List.length_take, Nat.min_eq_left hi]; simp)]
    rw [List.drop_of_length_le (by rw [List.length_append, List.length_take, Nat.min_eq_left hi]; simp), List.nil_append]
  rw [ht, hd, List.take_append_drop]
theorem del_ins {l : List TCoin} {i : Nat} (hi : i < l.length) : insC (delC l i (i + 1)) i (l.getD i dCoin) = l := by
  unfold delC insC
  have ht : (l.take i ++ l.drop (i + 1)).take i = l.take i := by
    rw [List.take_append_of_le_length (by rw [List.length_take]; omega), List.take_take, Nat.min_self]
  have hd : (l.take i ++ l.drop (i + 1)).drop i = l.drop (i + 1) := by
    rw [List.drop_append_of_le_length (by rw [List.length_take]; omega), List.drop_of_length_le (by rw [List.length_take]; omega), List.nil_append]
  have hg : l.getD i dCoin = l[i] := by simp [List.getD_eq_getElem?_getD, List.getElem?_eq_getElem hi]
  rw [ht, hd, hg, List.append_assoc, List.singleton_append, ← List.drop_eq_getElem_cons hi, List.take_append_drop]

/-- What was added is spent: all is as it was. -/
theorem add_spend {l l' : List TCoin} (h : Srt l) {c : TCoin} (ha : addV l c = (l', 0)) : spdV l' c.r = (l, c, 0) := by
  unfold addV at ha
  cases hb : plB l c.r with
  | true => rw [hb] at ha; simp at ha
  | false =>
    rw [hb, if_neg (by simp)] at ha
    obtain rfl : insC l (plN l c.r) c = l' := by injection ha
    have hle := plN_le l c.r
    have hs := srt_ins h hb
    have hlen := insC_len l (plN l c.r) c
    have hg := insC_getD hle c
    have hn : plN (insC l (plN l c.r) c) c.r = plN l c.r := by
      have := plN_own hs (i := plN l c.r) (by omega)
      rwa [hg] at this
    have hp : plB (insC l (plN l c.r) c) c.r = true := by
      have := plB_own hs (i := plN l c.r) (by omega)
      rwa [hg] at this
    unfold spdV
    rw [hp, if_pos rfl, hn, hg, ins_del hle]
/-- What was spent is added: all is as it was. -/
theorem spend_add {l l' : List TCoin} (h : Srt l) {r : TRef} {c : TCoin} (hsp : spdV l r = (l', c, 0)) : c.r = r ∧ addV l' c = (l, 0) := by
  unfold spdV at hsp
  cases hb : plB l r with
  | false => rw [hb] at hsp; simp at hsp
  | true =>
    rw [hb, if_pos rfl] at hsp
    simp only [Prod.mk.injEq, and_true] at hsp
    obtain ⟨rfl, rfl⟩ := hsp
    have hlt : plN l r < l.length := by
      unfold plB at hb
      rw [Bool.and_eq_true] at hb
      exact of_decide_eq_true hb.1
    have hr := plB_ref hb
    refine ⟨hr, ?_⟩
    rw [addV, hr]
    have hs := srt_del h (plN l r)
    obtain ⟨g1, g2⟩ := plN_spec h r
    have hlen : (delC l (plN l r) (plN l r + 1)).length = l.length - 1 := by
      unfold delC; rw [List.length_append, List.length_take, List.length_drop]; omega
    have lo : ∀ k, k < plN l r → (delC l (plN l r) (plN l r + 1)).getD k dCoin = l.getD k dCoin := by
      intro k hk
      unfold delC
      rw [List.getD_eq_getElem?_getD, List.getElem?_append_left (by rw [List.length_take]; omega), List.getElem?_take, if_pos hk, List.getD_eq_getElem?_getD]
    have hi : ∀ k, plN l r ≤ k → (delC l (plN l r) (plN l r + 1)).getD k dCoin = l.getD (k + 1) dCoin := by
      intro k hk
      unfold delC
      rw [List.getD_eq_getElem?_getD, List.getElem?_append_right (by rw [List.length_take]; omega), List.length_take, Nat.min_eq_left (by omega), List.getElem?_drop, List.getD_eq_getElem?_getD]
      congr 2; omega
    have up : ∀ k, plN l r < k → k < l.length → cmpR r (l.getD k dCoin).r < 0 := by
      intro k hk hkl
      have := h.at hk hkl
      rwa [hr] at this
    have hn : plN (delC l (plN l r) (plN l r + 1)) r = plN l r := by
      refine plN_uniq hs (by omega) (fun k hk => by rw [lo k hk]; exact g1 k hk) (fun k hk hkl hf => ?_)
      rw [hi k hk] at hf
      have := up (k + 1) (by omega) (by omega)
      rw [cmpR_rev] at this
      omega
    have hp : plB (delC l (plN l r) (plN l r + 1)) r = false := by
      unfold plB
      rw [hn, hlen]
      by_cases h3 : plN l r < l.length - 1
      · rw [decide_eq_true h3, Bool.true_and, decide_eq_false_iff_not, hi _ (Nat.le_refl _)]
        intro h4
        have := up (plN l r + 1) (by omega) (by omega)
        rw [cmpR_rev] at this
        omega
      · rw [decide_eq_false h3]; rfl
    rw [hp, if_neg (by simp), hn, del_ins hlt]

/-! ### Coins loaded. -/
theorem addV_err (l : List TCoin) (c : TCoin) : ((addV l c).2 = 0 ∧ plB l c.r = false ∧ (addV l c).1 = insC l (plN l c.r) c) ∨ ((addV l c).2 = 32 ∧ plB l c.r = true ∧ (addV l c).1 = l) := by
  unfold addV
  cases hb : plB l c.r with
  | true => exact .inr ⟨rfl, rfl, rfl⟩
  | false => exact .inl ⟨rfl, rfl, rfl⟩
theorem addsV_err : ∀ (cs l : List TCoin), ((addsV l cs).2 = 0 ∧ (addsV l cs).1.length = l.length + cs.length) ∨ (addsV l cs).2 = 32
  | [], l => .inl ⟨rfl, rfl⟩
  | c :: cs, l => by
    unfold addsV
    rcases addV_err l c with ⟨h1, h2, h3⟩ | ⟨h1, h2, h3⟩
    · rw [if_neg (by omega), h3]
      rcases addsV_err cs (insC l (plN l c.r) c) with ⟨g1, g2⟩ | g1
      · exact .inl ⟨g1, by rw [g2, insC_len, List.length_cons]; omega⟩
      · exact .inr g1
    · rw [if_pos (by omega)]
      exact .inr h1
theorem addsV_srt : ∀ (cs l : List TCoin), Srt l → Srt (addsV l cs).1
  | [], l, h => h
  | c :: cs, l, h => by
    unfold addsV
    split
    · exact addV_srt h c
    · exact addsV_srt cs _ (addV_srt h c)

/-! ### A block applied; an error may leave a part of it. -/
def blkV (nm : TTx → H32) (ht : UInt32) : List TCoin → List TTx → Bool → List TCoin → List TCoin × List TCoin × Int
  | l, [], _, acc => (l, acc, 0)
  | l, t :: ts, first, acc =>
    if (applyV l t (nm t) ht first).2.2 ≠ 0 then ((applyV l t (nm t) ht first).1, acc, (applyV l t (nm t) ht first).2.2)
    else blkV nm ht (applyV l t (nm t) ht first).1 ts false (acc ++ (applyV l t (nm t) ht first).2.1)

end Go.Fw

end
