/- Chapter 27: the law DiskSafe. -/
import Derived.Test.YtjepppdninejdaaC27k
namespace Go.Fw
open Go Go.Proofs
set_option linter.unusedVariables false
set_option linter.unusedSimpArgs false

theorem abits_15 (n : Int) : ∃ w : Nat, abits .and .i64 n 15 = (w : Int) ∧ w ≤ 15 := by
  have hp : ∃ a : Nat, abits .and .i64 n 15 = IntKind.i64.wrap ((a &&& 15 : Nat) : Int) := ⟨_, rfl⟩
  obtain ⟨a, ha⟩ := hp
  have h31 : a &&& 15 ≤ 15 := Nat.and_le_right
  exact ⟨a &&& 15, by rw [ha, wrap_i64 (by omega) (by omega)], h31⟩

structure Act where
  k : Int
  i : Int
  d : List UInt8
  f : Bool
  ks : List Int
abbrev actT (a : Act) : T := .st [.int .i64 a.k, .int .i64 a.i, .by a.d, .bool a.f, .sq 1 (a.ks.map (T.int .i64))]

theorem getD_set_ne {α : Type} {l : List α} {i j : Nat} {x y : α} (h : i ≠ j) : (l.set i x).getD j y = l.getD j y := by
  simp [List.getD_eq_getElem?_getD, List.getElem?_set_ne h]

theorem layP_at {q : Nat} (p : List (Int × List UInt8)) : ∀ s : List (List UInt8), (∀ w ∈ p, w.1.toNat ≠ q) → (layP s p).getD q [] = s.getD q [] := by
  induction p with
  | nil => intro s _; rfl
  | cons w p ih =>
    intro s h
    simp only [layP, List.foldl_cons] at ih ⊢
    rw [ih _ (fun x hx => h x (by simp [hx])), getD_set_ne (h w (by simp))]
theorem layK_at {q : Nat} (p : List ((Int × List UInt8) × Int)) : ∀ s : List (List UInt8), (∀ w ∈ p, w.1.1.toNat ≠ q) → (layK s p).getD q [] = s.getD q [] := by
  induction p with
  | nil => intro s _; rfl
  | cons w p ih =>
    intro s h
    simp only [layK, List.foldl_cons] at ih ⊢
    rw [ih _ (fun x hx => h x (by simp [hx]))]
    unfold keep1
    rw [getD_set_ne (h w (by simp))]
theorem layO_at {q : Nat} (t : List (List UInt8)) (p : List (Int × List UInt8)) : ∀ s : List (List UInt8), (∀ w ∈ p, w.1.toNat ≠ q) → (layO t s p).getD q [] = s.getD q [] := by
  induction p with
  | nil => intro s _; rfl
  | cons w p ih =>
    intro s h
    simp only [layO, List.foldl_cons] at ih ⊢
    rw [ih _ (fun x hx => h x (by simp [hx]))]
    unfold over1
    rw [getD_set_ne (h w (by simp))]

theorem layP_full (p : List (Int × List UInt8)) : ∀ s : List (List UInt8), full128 s = true → full128P p = true → full128 (layP s p) = true := by
  induction p with
  | nil => intro s h _; exact h
  | cons w p ih =>
    intro s h hp
    simp only [layP, List.foldl_cons] at ih ⊢
    have h1 := full128P_get hp (k := 0) (w := w) rfl
    have h2 : full128P p = true := by simp only [full128P, List.all_cons, Bool.and_eq_true] at hp ⊢; exact hp.2
    exact ih _ (full128_set h _ h1) h2

/-- A disk one of whose sectors is safe. -/
structure SafeSt (q : Nat) (own : List UInt8) where
  i : Nat
  l : Int
  off : Bool
  s : List (List UInt8)
  n : List (List UInt8)
  p : List (Int × List UInt8)
  hi : i ≤ 40
  hs : s.length = 16
  hn : n.length = 16
  fs : full128 s = true
  fn : full128 n = true
  fit : fitP 16 p = true
  fp : full128P p = true
  hp : p.length ≤ i
  os : s.getD q [] = own
  on : n.getD q [] = own
  hq : ∀ w ∈ p, w.1.toNat ≠ q

abbrev SafeSt.H {q : Nat} {own : List UInt8} (g : SafeSt q own) : List Blk := [dk 1 2 3 g.l g.off, .sq 128 (sect g.s), .sq 128 (sect g.n), .sq 129 (pnd g.p)]

theorem zip_fst {α β : Type} {l : List α} {m : List β} {x : α × β} (h : x ∈ l.zip m) : x.1 ∈ l := (List.of_mem_zip (a := x.1) (b := x.2) h).1

theorem play_spec {q : Nat} {own : List UInt8} (g : SafeSt q own) (a : Act) (hi : g.i < 40) (hd : a.d.length ≤ 200) (hka : a.k ≠ 1 ∨ a.i ≠ (q : Int)) :
    ∃ (g' : SafeSt q own) (r : Int), g'.i = g.i + 1 ∧ (G16 g.H [.ptr 0 0 [], .t (actT a)] = some (g'.H, .t (.int .i64 r)) ∨
      G16 g.H [.ptr 0 0 [], .t (actT a)] = some ([dk 1 2 4 g'.l g'.off, .sq 128 (sect g'.s), .sq 128 (sect g'.n), .no, .sq 129 (pnd g'.p)], .t (.int .i64 r)) ∨
      G16 g.H [.ptr 0 0 [], .t (actT a)] = some ([dk 1 2 4 g'.l g'.off, .sq 128 (sect g'.s), .sq 128 (sect g'.n), .sq 129 (pnd g.p), .sq 129 (pnd g'.p)], .t (.int .i64 r))) := by
  obtain ⟨i, l, off, s, n, p, h0, hs, hn, fs, fn, fit, fp, hp, os, on, hq⟩ := g
  obtain ⟨k, ai, d, f, ks⟩ := a
  simp only at hi hd hka
  have hck : T.cleanL (ks.map (T.int .i64)) = true := (cleanL_iff _).2 fun y hy => by simp only [List.mem_map] at hy; obtain ⟨z, _, rfl⟩ := hy; rfl
  have e0 : ∀ X, (if 200 < d.length then (none : Option (List Blk × AV)) else X) = X := fun X => if_neg (by omega)
  have e1 : ∀ X, (if T.cleanL (sect s) = false ∨ T.cleanL (sect n) = false ∨ T.cleanL (pnd p) = false ∨ T.cleanL (ks.map (T.int .i64)) = false then (none : Option (List Blk × AV)) else X) = X := fun X => if_neg (by rw [cleanL_sect, cleanL_sect, cleanL_pnd, hck]; simp)
  simp only [G16, e0, e1]
  by_cases h1 : k = 1
  · rw [if_pos h1]
    simp only [G11]
    by_cases c1 : (decide (0 ≤ ai) && decide (ai < ((sect s).length : Int))) = false ∨ (actB f d).length ≠ 128
    · rw [if_pos c1]
      exact ⟨⟨i + 1, l, off, s, n, p, by omega, hs, hn, fs, fn, fit, fp, by omega, os, on, hq⟩, 1, rfl, .inl rfl⟩
    · rw [if_neg c1]
      generalize hsp : spL l off = sp
      obtain ⟨l', off', ok⟩ := sp
      cases ok
      · exact ⟨⟨i + 1, l', off', s, n, p, by omega, hs, hn, fs, fn, fit, fp, by omega, os, on, hq⟩, 7, rfl, .inl rfl⟩
      · simp only [Bool.true_eq_false, if_false]
        have c2 : 0 ≤ ai ∧ ai < 16 ∧ (actB f d).length = 128 := by
          simp only [List.length_map, hs] at c1
          simp at c1
          omega
        obtain ⟨c2, c3, c4⟩ := c2
        rw [if_pos ⟨by simp [hs, hn], by simp only [List.length_map]; omega, by rw [sect_get n ai.toNat (by omega)]; rfl⟩]
        have hne : ai.toNat ≠ q := by
          rcases hka with h | h
          · exact absurd h1 h
          · omega
        refine ⟨⟨i + 1, l', off', s, n.set ai.toNat (actB f d), p ++ [(ai, actB f d)], by omega, hs, by simp [hn], fs, full128_set fn _ c4, ?_, ?_, by simp; omega, os, by rw [getD_set_ne hne]; exact on, ?_⟩, 0, rfl, .inr (.inl ?_)⟩
        · exact List.all_eq_true.2 (fun y hy => (List.mem_append.1 hy).elim (fun h => List.all_eq_true.1 fit y h) (fun h => by simp at h; subst h; simp; omega))
        · exact List.all_eq_true.2 (fun y hy => (List.mem_append.1 hy).elim (fun h => List.all_eq_true.1 fp y h) (fun h => by simp at h; subst h; simp [c4]))
        · intro w hw
          rcases List.mem_append.1 hw with h | h
          · exact hq w h
          · simp at h; subst h; exact hne
        · simp only [sect, pnd, List.map_set, List.map_append, List.map_cons, List.map_nil]
  · rw [if_neg h1]
    by_cases h2 : k = 2
    · rw [if_pos h2]
      simp only [G12]
      generalize hsp : spL l off = sp
      obtain ⟨l', off', ok⟩ := sp
      cases ok
      · exact ⟨⟨i + 1, l', off', s, n, p, by omega, hs, hn, fs, fn, fit, fp, by omega, os, on, hq⟩, 7, rfl, .inl rfl⟩
      · simp only [Bool.true_eq_false, if_false, asSect_map, asPnd_map]
        rw [if_pos ⟨by rw [hs]; exact fit, by omega⟩]
        exact ⟨⟨i + 1, l', off', layP s p, n, [], by omega, by rw [layP_len]; exact hs, hn, layP_full p s fs fp, fn, rfl, rfl, by simp, by rw [layP_at p s hq]; exact os, on, by simp⟩, 0, rfl, .inr (.inr rfl)⟩
    · rw [if_neg h2]
      by_cases h3 : k = 3
      · rw [if_pos h3]
        exact ⟨⟨i + 1, _, off, s, n, p, by omega, hs, hn, fs, fn, fit, fp, by omega, os, on, hq⟩, 0, rfl, .inl rfl⟩
      · rw [if_neg h3]
        by_cases h4 : k = 4
        · rw [if_pos h4]
          simp only [G13, asSect_map, asPnd_map, asInts_map]
          rw [if_pos ⟨by rw [hs, fit, fs, fp]; rfl, by rw [hs, hn], by omega⟩]
          have hkf : full128 (layK s (p.zip ks)) = true := layK_full _ _ fs fun x hx => by
            obtain ⟨j, hj⟩ := List.getElem?_of_mem (zip_fst hx)
            have := fitP_get fit hj
            exact ⟨full128P_get fp hj, by omega⟩
          exact ⟨⟨i + 1, -1, false, layK s (p.zip ks), layO (layK s (p.zip ks)) n p, [], by omega, by rw [layK_len]; exact hs, by rw [layO_len]; exact hn, hkf, layO_full _ hkf p n fn (by rw [layK_len, hs]; exact fit), rfl, rfl, by simp, by rw [layK_at _ s (fun w hw => hq _ (zip_fst hw))]; exact os, by rw [layO_at _ p n hq]; exact on, by simp⟩, 0, rfl, .inr (.inr rfl)⟩
        · rw [if_neg h4]
          exact ⟨⟨i + 1, l, off, s, n, p, by omega, hs, hn, fs, fn, fit, fp, by omega, os, on, hq⟩, 0, rfl, .inl rfl⟩

end Go.Fw
