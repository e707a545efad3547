/- Chapter 27: a crash. -/
import Derived.Test.YtjepppdninejdaaC27e
namespace Go.Fw
open Go Go.Proofs
set_option linter.unusedVariables false
set_option linter.unusedSimpArgs false

def asInts : List T → Option (List Int)
  | [] => some []
  | .int .i64 k :: r => match asInts r with
    | some ks => some (k :: ks)
    | none => none
  | _ => none

theorem asInts_map (l : List Int) : asInts (l.map (T.int .i64)) = some l := by
  induction l with
  | nil => rfl
  | cons x l ih => simp only [List.map_cons, asInts, ih]
theorem asInts_inv : ∀ {xs : List T} {l : List Int}, asInts xs = some l → xs = l.map (T.int .i64)
  | [], l, h => by cases h; rfl
  | x :: r, l, h => by
    unfold asInts at h
    split at h
    · rename_i he; cases he
    · rename_i he
      cases he
      split at h
      · rename_i ls hls
        cases h
        rw [asInts_inv hls]; rfl
      · cases h
    · cases h

/-- How many bytes a crash keeps. -/
def keepN (k : Int) : Nat := (if 128 < (if 0 > k then 0 else k) then 128 else (if 0 > k then 0 else k)).toNat

theorem keepN_le (k : Int) : keepN k ≤ 128 := by unfold keepN; split <;> split at * <;> omega
theorem keepN_eq (k : Int) : (if 128 < (if 0 > k then 0 else k) then 128 else (if 0 > k then 0 else k)) = ((keepN k : Nat) : Int) := by unfold keepN; split <;> split at * <;> omega

def keep1 (s : List (List UInt8)) (x : (Int × List UInt8) × Int) : List (List UInt8) := s.set x.1.1.toNat (x.1.2.take (keepN x.2) ++ (s.getD x.1.1.toNat []).drop (keepN x.2))
/-- Beginnings of writes laid over sectors. -/
def layK (s : List (List UInt8)) (p : List ((Int × List UInt8) × Int)) : List (List UInt8) := p.foldl keep1 s
/-- Sectors taken over where there was a write. -/
def over1 (t : List (List UInt8)) (n : List (List UInt8)) (w : Int × List UInt8) : List (List UInt8) := n.set w.1.toNat (t.getD w.1.toNat [])
def layO (t n : List (List UInt8)) (p : List (Int × List UInt8)) : List (List UInt8) := p.foldl (over1 t) n

theorem layK_len (p : List ((Int × List UInt8) × Int)) : ∀ s : List (List UInt8), (layK s p).length = s.length := by
  induction p with
  | nil => intro s; rfl
  | cons w p ih => intro s; simp only [layK, List.foldl_cons] at ih ⊢; rw [ih]; simp [keep1]
theorem layO_len (t : List (List UInt8)) (p : List (Int × List UInt8)) : ∀ s : List (List UInt8), (layO t s p).length = s.length := by
  induction p with
  | nil => intro s; rfl
  | cons w p ih => intro s; simp only [layO, List.foldl_cons] at ih ⊢; rw [ih]; simp [over1]
theorem layK_snoc (s : List (List UInt8)) (p : List ((Int × List UInt8) × Int)) (w : (Int × List UInt8) × Int) : layK s (p ++ [w]) = keep1 (layK s p) w := by simp [layK, List.foldl_append]
theorem layO_snoc (t s : List (List UInt8)) (p : List (Int × List UInt8)) (w : Int × List UInt8) : layO t s (p ++ [w]) = over1 t (layO t s p) w := by simp [layO, List.foldl_append]

/-- All of a sector's length. -/
def full128 (s : List (List UInt8)) : Bool := s.all fun x => x.length == 128
theorem full128_get {s : List (List UInt8)} (h : full128 s = true) {i : Nat} (hi : i < s.length) : (s.getD i []).length = 128 := by
  have := List.all_eq_true.1 h s[i] (List.getElem_mem hi)
  simp [hi]; simpa using this
theorem full128_set {s : List (List UInt8)} (h : full128 s = true) (i : Nat) {x : List UInt8} (hx : x.length = 128) : full128 (s.set i x) = true := by
  refine List.all_eq_true.2 fun y hy => ?_
  rcases List.mem_or_eq_of_mem_set hy with h1 | h1
  · exact List.all_eq_true.1 h y h1
  · rw [h1]; simpa using hx

theorem layK_full (p : List ((Int × List UInt8) × Int)) : ∀ s : List (List UInt8), full128 s = true → (∀ x ∈ p, x.1.2.length = 128 ∧ x.1.1.toNat < s.length) → full128 (layK s p) = true := by
  induction p with
  | nil => intro s h _; exact h
  | cons w p ih =>
    intro s h hp
    simp only [layK, List.foldl_cons] at ih ⊢
    obtain ⟨h1, h2⟩ := hp w (by simp)
    refine ih _ (full128_set h _ ?_) (fun x hx => ?_)
    · have := full128_get h h2
      have := keepN_le w.2
      simp only [List.length_append, List.length_take, List.length_drop]; omega
    · have := hp x (by simp [hx])
      simpa [keep1] using this

def full128P (p : List (Int × List UInt8)) : Bool := p.all fun x => x.2.length == 128
theorem full128P_get {p : List (Int × List UInt8)} (h : full128P p = true) {k : Nat} {w : Int × List UInt8} (hk : p[k]? = some w) : w.2.length = 128 := by
  have := List.all_eq_true.1 h w (List.mem_of_getElem? hk)
  simpa using this

def G13 : GFun
  | [], [.t .nilp, .t (.sq 1 ks)] => some ([], .tup [])
  | [.bx (.st [.own 1, .own 2, .own 3, .t (.int .i64 l), .t (.bool off)]), .sq 128 s, .sq 128 n, .sq 129 p], [.ptr 0 0 [], .t (.sq 1 ks)] =>
    match asSect s with
    | some s => match asSect n with
      | some n => match asPnd p with
        | some p => match asInts ks with
          | some ks => if (fitP s.length p && full128 s && full128P p) = true ∧ n.length = s.length ∧ p.length ≤ 1000000 then
              some ([dk 1 2 4 (-1) false, .sq 128 (sect (layK s (p.zip ks))), .sq 128 (sect (layO (layK s (p.zip ks)) n p)), .sq 129 (pnd p), .sq 129 []], .tup []) else none
          | none => none
        | none => none
      | none => none
    | none => none
  | _, _ => none

theorem cl13 : GClOk Try.prog [] := GClOk.nil _

theorem g13 : GCon Try.prog 13 G13 := by
  refine gcon (E := E) (rs := []) Try.func13 rfl Try.ntmps13 (by kernel_rfl) rfl (by decide) G13 (np := 2) ?_ ?_
  · intro HB xs h; unfold G13; split <;> first | rfl | (simp at h; done)
  intro HB xs H r hG hwf hex
  unfold G13 at hG
  split at hG <;> try (cases hG; done)
  · cases hG
    refine AWP.seq ?_
    refine AWP.gseq X_ok cl13 [0, 1, 4, 5, 6, 8, 10, 18, 19, 20, 52, 53, 54, 55] (by ((repeat (first | simp only [FW1, FW2, FW3, FW4, FW5, FW6, FW7, FW8, ES, eqq, SL, ↓reduceIte, Nat.reduceEqDiff, Nat.reduceLT, Nat.reduceLeDiff, Nat.reduceAdd, Nat.reduceMul, Nat.reduceSub, Nat.reduceBEq, Int.reduceLE, Int.reduceLT, Int.reduceNeg, Int.reduceToNat, Int.reduceEq, Int.reduceBEq, Int.reduceBNe, Nat.reduceBNe, bne_self_eq_false, reduceCtorEq, gentry] | (rewrite [if_pos]; rotate_left; focus (first | omega | (simp only [List.length_map, List.length_append, List.length_cons, List.length_nil, List.length_replicate, List.length_take, List.length_drop, List.length_set, gentry]; omega) | (refine ⟨?_, ?_⟩ <;> (simp only [List.length_map, List.length_append, List.length_cons, List.length_nil, List.length_replicate, List.length_take, List.length_drop, List.length_set, gentry] <;> omega)))) | (rewrite [if_neg]; rotate_left; focus (first | omega | (simp only [List.length_map, List.length_append, List.length_cons, List.length_nil, List.length_replicate, List.length_take, List.length_drop, List.length_set, gentry]; omega) | (refine ⟨?_, ?_⟩ <;> (simp only [List.length_map, List.length_append, List.length_cons, List.length_nil, List.length_replicate, List.length_take, List.length_drop, List.length_set, gentry] <;> omega)))))); with_reducible rfl)) ?_
    refine AWP.condT (by simp only [FW1, FW2, FW3, FW4, FW5, FW6, FW7, FW8, ES, eqq, SL, ↓reduceIte, Nat.reduceEqDiff, Nat.reduceLT, Nat.reduceLeDiff, Nat.reduceAdd, Nat.reduceMul, Nat.reduceSub, Nat.reduceBEq, Int.reduceLE, Int.reduceLT, Int.reduceNeg, Int.reduceToNat, Int.reduceEq, Int.reduceBEq, Int.reduceBNe, Nat.reduceBNe, bne_self_eq_false, reduceCtorEq]) ?_
    exact AWP.ret ⟨.inr rfl, [], [], (show okIds 0 [] by decide), rfl, rfl⟩
  · rename_i l off s n p ks
    split at hG
    case h_2 => cases hG
    rename_i s' hs'
    split at hG
    case h_2 => cases hG
    rename_i n' hn'
    split at hG
    case h_2 => cases hG
    rename_i p' hp'
    split at hG
    case h_2 => cases hG
    rename_i ks' hks'
    split at hG
    case isFalse => cases hG
    rename_i hc
    obtain ⟨hc0, hc1, hc2⟩ := hc
    simp only [Bool.and_eq_true] at hc0
    obtain ⟨⟨hc3, hc4⟩, hc5⟩ := hc0
    cases hG
    obtain rfl := asSect_inv hs'
    obtain rfl := asSect_inv hn'
    obtain rfl := asPnd_inv hp'
    obtain rfl := asInts_inv hks'
    have hkw := hwf _ (List.mem_cons_of_mem _ (List.mem_cons_self))
    simp only [AV.wf, T.wf, List.length_map, maxLen] at hkw
    refine AWP.seq ?_
    refine AWP.gseq X_ok cl13 [0, 1, 4, 5, 6, 8, 10, 18, 19, 20, 52, 53, 54, 55] (by ((repeat (first | simp only [FW1, FW2, FW3, FW4, FW5, FW6, FW7, FW8, ES, eqq, SL, ↓reduceIte, Nat.reduceEqDiff, Nat.reduceLT, Nat.reduceLeDiff, Nat.reduceAdd, Nat.reduceMul, Nat.reduceSub, Nat.reduceBEq, Int.reduceLE, Int.reduceLT, Int.reduceNeg, Int.reduceToNat, Int.reduceEq, Int.reduceBEq, Int.reduceBNe, Nat.reduceBNe, bne_self_eq_false, reduceCtorEq, gentry] | (rewrite [if_pos]; rotate_left; focus (first | omega | (simp only [List.length_map, List.length_append, List.length_cons, List.length_nil, List.length_replicate, List.length_take, List.length_drop, List.length_set, gentry]; omega) | (refine ⟨?_, ?_⟩ <;> (simp only [List.length_map, List.length_append, List.length_cons, List.length_nil, List.length_replicate, List.length_take, List.length_drop, List.length_set, gentry] <;> omega)))) | (rewrite [if_neg]; rotate_left; focus (first | omega | (simp only [List.length_map, List.length_append, List.length_cons, List.length_nil, List.length_replicate, List.length_take, List.length_drop, List.length_set, gentry]; omega) | (refine ⟨?_, ?_⟩ <;> (simp only [List.length_map, List.length_append, List.length_cons, List.length_nil, List.length_replicate, List.length_take, List.length_drop, List.length_set, gentry] <;> omega)))))); with_reducible rfl)) ?_
    refine AWP.condF (by simp only [FW1, FW2, FW3, FW4, FW5, FW6, FW7, FW8, ES, eqq, SL, ↓reduceIte, Nat.reduceEqDiff, Nat.reduceLT, Nat.reduceLeDiff, Nat.reduceAdd, Nat.reduceMul, Nat.reduceSub, Nat.reduceBEq, Int.reduceLE, Int.reduceLT, Int.reduceNeg, Int.reduceToNat, Int.reduceEq, Int.reduceBEq, Int.reduceBNe, Nat.reduceBNe, bne_self_eq_false, reduceCtorEq]) (AWP.skip ?_)
    show AWP _ _ _ _ _ _
    refine AWP.seq ?_
    have hM : (if (p'.length : Int) < (ks'.length : Int) then (p'.length : Int) else (ks'.length : Int)) = ((min ks'.length p'.length : Nat) : Int) := by split <;> omega
    have hzl : (p'.zip ks').length = min ks'.length p'.length := by rw [List.length_zip]; omega
    refine AWP.gseq X_ok cl13 [0, 1, 4, 5, 6, 8, 10, 18, 19, 20, 52, 53, 54, 55] (by ((repeat (first | simp only [FW1, FW2, FW3, FW4, FW5, FW6, FW7, FW8, ES, eqq, SL, ↓reduceIte, Nat.reduceEqDiff, Nat.reduceLT, Nat.reduceLeDiff, Nat.reduceAdd, Nat.reduceMul, Nat.reduceSub, Nat.reduceBEq, Int.reduceLE, Int.reduceLT, Int.reduceNeg, Int.reduceToNat, Int.reduceEq, Int.reduceBEq, Int.reduceBNe, Nat.reduceBNe, bne_self_eq_false, reduceCtorEq, hM] | (rewrite [if_pos]; rotate_left; focus (first | omega | (simp only [List.length_map, List.length_append, List.length_cons, List.length_nil, List.length_replicate, List.length_take, List.length_drop, List.length_set, hM]; omega) | (refine ⟨?_, ?_⟩ <;> (simp only [List.length_map, List.length_append, List.length_cons, List.length_nil, List.length_replicate, List.length_take, List.length_drop, List.length_set, hM] <;> omega)))) | (rewrite [if_neg]; rotate_left; focus (first | omega | (simp only [List.length_map, List.length_append, List.length_cons, List.length_nil, List.length_replicate, List.length_take, List.length_drop, List.length_set, hM]; omega) | (refine ⟨?_, ?_⟩ <;> (simp only [List.length_map, List.length_append, List.length_cons, List.length_nil, List.length_replicate, List.length_take, List.length_drop, List.length_set, hM] <;> omega)))))); with_reducible rfl)) ?_
    refine AWP.block ?_
    refine AWP.loop (G := { k : Nat // k ≤ min ks'.length p'.length }) (fun k => ⟨[(0, .ptr 0 0 []), (1, .t (.sq 1 (ks'.map (T.int .i64)))), (18, .t (.int .i64 ((min ks'.length p'.length : Nat) : Int))), (19, .t (.int .i64 (k.1 : Int)))], [dk 1 2 3 l off, .sq 128 (sect (layK s' ((p'.zip ks').take k.1))), .sq 128 (sect n'), .sq 129 (pnd p')]⟩) (fun k => min ks'.length p'.length - k.1) ⟨0, by omega⟩ (Weak.to [0, 1, 18, 19] [0, 1, 2, 3] (show okIds 4 [0, 1, 2, 3] by decide) (by simp only [FW1, FW2, FW3, FW4, FW5, FW6, FW7, FW8, ES, eqq, SL, ↓reduceIte, Nat.reduceEqDiff, Nat.reduceLT, Nat.reduceLeDiff, Nat.reduceAdd, Nat.reduceMul, Nat.reduceSub, Nat.reduceBEq, Int.reduceLE, Int.reduceLT, Int.reduceNeg, Int.reduceToNat, Int.reduceEq, Int.reduceBEq, Int.reduceBNe, Nat.reduceBNe, bne_self_eq_false, reduceCtorEq, layK, List.foldl_nil])) ?_
    intro ⟨k, hk⟩
    refine AWP.gseq X_ok cl13 [0, 1, 4, 5, 6, 8, 10, 18, 19, 20, 52, 53, 54, 55] (by ((repeat (first | simp only [FW1, FW2, FW3, FW4, FW5, FW6, FW7, FW8, ES, eqq, SL, ↓reduceIte, Nat.reduceEqDiff, Nat.reduceLT, Nat.reduceLeDiff, Nat.reduceAdd, Nat.reduceMul, Nat.reduceSub, Nat.reduceBEq, Int.reduceLE, Int.reduceLT, Int.reduceNeg, Int.reduceToNat, Int.reduceEq, Int.reduceBEq, Int.reduceBNe, Nat.reduceBNe, bne_self_eq_false, reduceCtorEq] | (rewrite [if_pos]; rotate_left; focus (first | omega | (simp only [List.length_map, List.length_append, List.length_cons, List.length_nil, List.length_replicate, List.length_take, List.length_drop, List.length_set]; omega) | (refine ⟨?_, ?_⟩ <;> (simp only [List.length_map, List.length_append, List.length_cons, List.length_nil, List.length_replicate, List.length_take, List.length_drop, List.length_set] <;> omega)))) | (rewrite [if_neg]; rotate_left; focus (first | omega | (simp only [List.length_map, List.length_append, List.length_cons, List.length_nil, List.length_replicate, List.length_take, List.length_drop, List.length_set]; omega) | (refine ⟨?_, ?_⟩ <;> (simp only [List.length_map, List.length_append, List.length_cons, List.length_nil, List.length_replicate, List.length_take, List.length_drop, List.length_set] <;> omega)))))); with_reducible rfl)) ?_
    by_cases hlt : (k : Int) < ((min ks'.length p'.length : Nat) : Int)
    · refine AWP.seq (AWP.condT (by simp only [FW1, FW2, FW3, FW4, FW5, FW6, FW7, FW8, ES, eqq, SL, ↓reduceIte, Nat.reduceEqDiff, Nat.reduceLT, Nat.reduceLeDiff, Nat.reduceAdd, Nat.reduceMul, Nat.reduceSub, Nat.reduceBEq, Int.reduceLE, Int.reduceLT, Int.reduceNeg, Int.reduceToNat, Int.reduceEq, Int.reduceBEq, Int.reduceBNe, Nat.reduceBNe, bne_self_eq_false, reduceCtorEq, hlt]) (AWP.skip ?_))
      show AWP _ _ _ _ _ _
      refine AWP.seq (AWP.block ?_)
      have hkl : k < p'.length := by omega
      have hkl2 : k < ks'.length := by omega
      obtain ⟨w, hw⟩ : ∃ w, p'[k]? = some w := ⟨p'[k], List.getElem?_eq_getElem hkl⟩
      obtain ⟨w1, w2⟩ := w
      have hget := pnd_get p' k _ hw
      obtain ⟨f1, f2⟩ := fitP_get hc3 hw
      have hw2 := full128P_get hc5 hw
      simp only at f1 f2 hget hw2
      have hlen : (layK s' ((p'.zip ks').take k)).length = s'.length := layK_len _ _
      refine AWP.gseq X_ok cl13 [0, 1, 4, 5, 6, 8, 10, 18, 19, 20, 52, 53, 54, 55] (by ((repeat (first | simp only [FW1, FW2, FW3, FW4, FW5, FW6, FW7, FW8, ES, eqq, SL, ↓reduceIte, Nat.reduceEqDiff, Nat.reduceLT, Nat.reduceLeDiff, Nat.reduceAdd, Nat.reduceMul, Nat.reduceSub, Nat.reduceBEq, Int.reduceLE, Int.reduceLT, Int.reduceNeg, Int.reduceToNat, Int.reduceEq, Int.reduceBEq, Int.reduceBNe, Nat.reduceBNe, bne_self_eq_false, reduceCtorEq] | (rewrite [if_pos]; rotate_left; focus (first | omega | (simp only [List.length_map, List.length_append, List.length_cons, List.length_nil, List.length_replicate, List.length_take, List.length_drop, List.length_set]; omega) | (refine ⟨?_, ?_⟩ <;> (simp only [List.length_map, List.length_append, List.length_cons, List.length_nil, List.length_replicate, List.length_take, List.length_drop, List.length_set] <;> omega)))) | (rewrite [if_neg]; rotate_left; focus (first | omega | (simp only [List.length_map, List.length_append, List.length_cons, List.length_nil, List.length_replicate, List.length_take, List.length_drop, List.length_set]; omega) | (refine ⟨?_, ?_⟩ <;> (simp only [List.length_map, List.length_append, List.length_cons, List.length_nil, List.length_replicate, List.length_take, List.length_drop, List.length_set] <;> omega)))))); with_reducible rfl)) ?_
      refine AWP.gseq X_ok cl13 [0, 1, 4, 5, 6, 8, 10, 18, 19, 20, 52, 53, 54, 55] (by ((repeat (first | simp only [FW1, FW2, FW3, FW4, FW5, FW6, FW7, FW8, ES, eqq, SL, ↓reduceIte, Nat.reduceEqDiff, Nat.reduceLT, Nat.reduceLeDiff, Nat.reduceAdd, Nat.reduceMul, Nat.reduceSub, Nat.reduceBEq, Int.reduceLE, Int.reduceLT, Int.reduceNeg, Int.reduceToNat, Int.reduceEq, Int.reduceBEq, Int.reduceBNe, Nat.reduceBNe, bne_self_eq_false, reduceCtorEq, hget, hkl] | (rewrite [if_pos]; rotate_left; focus (first | omega | (simp only [List.length_map, List.length_append, List.length_cons, List.length_nil, List.length_replicate, List.length_take, List.length_drop, List.length_set, hget, hkl]; omega) | (refine ⟨?_, ?_⟩ <;> (simp only [List.length_map, List.length_append, List.length_cons, List.length_nil, List.length_replicate, List.length_take, List.length_drop, List.length_set, hget, hkl] <;> omega)))) | (rewrite [if_neg]; rotate_left; focus (first | omega | (simp only [List.length_map, List.length_append, List.length_cons, List.length_nil, List.length_replicate, List.length_take, List.length_drop, List.length_set, hget, hkl]; omega) | (refine ⟨?_, ?_⟩ <;> (simp only [List.length_map, List.length_append, List.length_cons, List.length_nil, List.length_replicate, List.length_take, List.length_drop, List.length_set, hget, hkl] <;> omega)))))); with_reducible rfl)) ?_
      have hgk : (ks'.map (T.int .i64)).getD k default = .int .i64 (ks'.getD k 0) := by simp [hkl2]
      have hke := keepN_eq (ks'.getD k 0)
      have hkle := keepN_le (ks'.getD k 0)
      refine AWP.gseq X_ok cl13 [0, 1, 4, 5, 6, 8, 10, 18, 19, 20, 52, 53, 54, 55] (by ((repeat (first | simp only [FW1, FW2, FW3, FW4, FW5, FW6, FW7, FW8, ES, eqq, SL, ↓reduceIte, Nat.reduceEqDiff, Nat.reduceLT, Nat.reduceLeDiff, Nat.reduceAdd, Nat.reduceMul, Nat.reduceSub, Nat.reduceBEq, Int.reduceLE, Int.reduceLT, Int.reduceNeg, Int.reduceToNat, Int.reduceEq, Int.reduceBEq, Int.reduceBNe, Nat.reduceBNe, bne_self_eq_false, reduceCtorEq, hgk, hke] | (rewrite [if_pos]; rotate_left; focus (first | omega | (simp only [List.length_map, List.length_append, List.length_cons, List.length_nil, List.length_replicate, List.length_take, List.length_drop, List.length_set, hgk, hke]; omega) | (refine ⟨?_, ?_⟩ <;> (simp only [List.length_map, List.length_append, List.length_cons, List.length_nil, List.length_replicate, List.length_take, List.length_drop, List.length_set, hgk, hke] <;> omega)))) | (rewrite [if_neg]; rotate_left; focus (first | omega | (simp only [List.length_map, List.length_append, List.length_cons, List.length_nil, List.length_replicate, List.length_take, List.length_drop, List.length_set, hgk, hke]; omega) | (refine ⟨?_, ?_⟩ <;> (simp only [List.length_map, List.length_append, List.length_cons, List.length_nil, List.length_replicate, List.length_take, List.length_drop, List.length_set, hgk, hke] <;> omega)))))); with_reducible rfl)) ?_
      generalize hkd : keepN (ks'.getD k 0) = kk at hkle
      have hn : w1.toNat < s'.length := by omega
      have hsg := sect_get (layK s' ((p'.zip ks').take k)) w1.toNat (by rw [hlen]; omega)
      have hold : ((layK s' ((p'.zip ks').take k)).getD w1.toNat []).length = 128 := by
        refine full128_get (layK_full _ _ hc4 fun x hx => ?_) (by rw [hlen]; omega)
        have hx' := List.mem_of_mem_take hx
        obtain ⟨j, hj⟩ := List.getElem?_of_mem hx'
        rw [List.getElem?_zip_eq_some] at hj
        have a1 := full128P_get hc5 hj.1
        have a2 := fitP_get hc3 hj.1
        exact ⟨a1, by omega⟩
      generalize hol : (layK s' ((p'.zip ks').take k)).getD w1.toNat [] = old at hsg hold
      have hlaid : laid old (List.take kk w2) 0 (Nat.min (List.take kk w2).length kk) = w2.take kk ++ old.drop kk := by
        have e : Nat.min (List.take kk w2).length kk = kk := by rw [List.length_take]; show min _ _ = kk; omega
        rw [e]
        simp only [laid, List.take_zero, List.nil_append, Nat.zero_add]
        rw [List.take_of_length_le (l := List.take kk w2) (by rw [List.length_take]; omega)]
      refine AWP.gdraw X_ok cl13 [0, 1, 4, 5, 6, 8, 10, 18, 19, 20, 52, 53, 54, 55] mix [⟨0, [0], []⟩, ⟨0, [35], []⟩, ⟨0, [36], []⟩, ⟨1, [37], []⟩, ⟨0, [5], []⟩, ⟨1, [39], []⟩, ⟨1, [38, 40], [3, 5]⟩, ⟨0, [6], []⟩, ⟨1, [41, 42], [3, 5, 6]⟩, ⟨0, [5], []⟩, ⟨0, [6], []⟩, ⟨1, [44, 45], []⟩, ⟨2, [43, 46], [3, 5, 6, 8, 11]⟩] (by kernel_rfl) (by ((repeat (first | simp only [FW1, FW2, FW3, FW4, FW5, FW6, FW7, FW8, ES, eqq, SL, ↓reduceIte, Nat.reduceEqDiff, Nat.reduceLT, Nat.reduceLeDiff, Nat.reduceAdd, Nat.reduceMul, Nat.reduceSub, Nat.reduceBEq, Int.reduceLE, Int.reduceLT, Int.reduceNeg, Int.reduceToNat, Int.reduceEq, Int.reduceBEq, Int.reduceBNe, Nat.reduceBNe, bne_self_eq_false, reduceCtorEq, hsg, hn, hlen, hlaid, hw2, hold] | (rewrite [if_pos]; rotate_left; focus (first | omega | (simp only [List.length_map, List.length_append, List.length_cons, List.length_nil, List.length_replicate, List.length_take, List.length_drop, List.length_set, hsg, hn, hlen, hlaid, hw2, hold]; omega) | (refine ⟨?_, ?_⟩ <;> (simp only [List.length_map, List.length_append, List.length_cons, List.length_nil, List.length_replicate, List.length_take, List.length_drop, List.length_set, hsg, hn, hlen, hlaid, hw2, hold] <;> omega)))) | (rewrite [if_neg]; rotate_left; focus (first | omega | (simp only [List.length_map, List.length_append, List.length_cons, List.length_nil, List.length_replicate, List.length_take, List.length_drop, List.length_set, hsg, hn, hlen, hlaid, hw2, hold]; omega) | (refine ⟨?_, ?_⟩ <;> (simp only [List.length_map, List.length_append, List.length_cons, List.length_nil, List.length_replicate, List.length_take, List.length_drop, List.length_set, hsg, hn, hlen, hlaid, hw2, hold] <;> omega)))))); with_reducible rfl)) ?_
      show AWP _ _ _ _ _ _
      have hk1 : IntKind.i64.wrap ((k : Int) + 1) = ((k + 1 : Nat) : Int) := by rw [wrap_i64 (by omega) (by omega)]; omega
      refine AWP.greg X_ok cl13 [0, 1, 4, 5, 6, 8, 10, 18, 19, 20, 52, 53, 54, 55] (by ((repeat (first | simp only [FW1, FW2, FW3, FW4, FW5, FW6, FW7, FW8, ES, eqq, SL, ↓reduceIte, Nat.reduceEqDiff, Nat.reduceLT, Nat.reduceLeDiff, Nat.reduceAdd, Nat.reduceMul, Nat.reduceSub, Nat.reduceBEq, Int.reduceLE, Int.reduceLT, Int.reduceNeg, Int.reduceToNat, Int.reduceEq, Int.reduceBEq, Int.reduceBNe, Nat.reduceBNe, bne_self_eq_false, reduceCtorEq, hk1] | (rewrite [if_pos]; rotate_left; focus (first | omega | (simp only [List.length_map, List.length_append, List.length_cons, List.length_nil, List.length_replicate, List.length_take, List.length_drop, List.length_set, hk1]; omega) | (refine ⟨?_, ?_⟩ <;> (simp only [List.length_map, List.length_append, List.length_cons, List.length_nil, List.length_replicate, List.length_take, List.length_drop, List.length_set, hk1] <;> omega)))) | (rewrite [if_neg]; rotate_left; focus (first | omega | (simp only [List.length_map, List.length_append, List.length_cons, List.length_nil, List.length_replicate, List.length_take, List.length_drop, List.length_set, hk1]; omega) | (refine ⟨?_, ?_⟩ <;> (simp only [List.length_map, List.length_append, List.length_cons, List.length_nil, List.length_replicate, List.length_take, List.length_drop, List.length_set, hk1] <;> omega)))))); with_reducible rfl)) ?_
      have hstep : List.map (T.ba 128) (layK s' ((p'.zip ks').take (k + 1))) = (List.map (T.ba 128) (layK s' ((p'.zip ks').take k))).set w1.toNat (.ba 128 (w2.take kk ++ old.drop kk)) := by
        have hz : (p'.zip ks')[k]? = some ((w1, w2), ks'.getD k 0) := by
          rw [List.getElem?_zip_eq_some]; exact ⟨hw, by simp [hkl2]⟩
        rw [List.take_add_one, hz]
        simp only [Option.toList, layK_snoc, keep1, List.map_set, hkd, hol]
      exact ⟨⟨k + 1, by omega⟩, Weak.to [0, 1, 18, 19] [0, 1, 2, 3] (show okIds 4 [0, 1, 2, 3] by decide) (by simp only [FW1, FW2, FW3, FW4, FW5, FW6, FW7, FW8, ES, eqq, SL, ↓reduceIte, Nat.reduceEqDiff, Nat.reduceLT, Nat.reduceLeDiff, Nat.reduceAdd, Nat.reduceMul, Nat.reduceSub, Nat.reduceBEq, Int.reduceLE, Int.reduceLT, Int.reduceNeg, Int.reduceToNat, Int.reduceEq, Int.reduceBEq, Int.reduceBNe, Nat.reduceBNe, bne_self_eq_false, reduceCtorEq, hstep]), by simp only; omega⟩
    · refine AWP.seq (AWP.condF (by simp only [FW1, FW2, FW3, FW4, FW5, FW6, FW7, FW8, ES, eqq, SL, ↓reduceIte, Nat.reduceEqDiff, Nat.reduceLT, Nat.reduceLeDiff, Nat.reduceAdd, Nat.reduceMul, Nat.reduceSub, Nat.reduceBEq, Int.reduceLE, Int.reduceLT, Int.reduceNeg, Int.reduceToNat, Int.reduceEq, Int.reduceBEq, Int.reduceBNe, Nat.reduceBNe, bne_self_eq_false, reduceCtorEq, hlt]) (AWP.exit ?_))
      obtain rfl : k = min ks'.length p'.length := by omega
      show AWP _ _ _ _ _ _
      have e : (p'.zip ks').take (min ks'.length p'.length) = p'.zip ks' := List.take_of_length_le (by omega)
      refine AWP.seq ?_
      refine AWP.gseq X_ok cl13 [0, 1, 4, 5, 6, 8, 10, 18, 19, 20, 52, 53, 54, 55] (by ((repeat (first | simp only [FW1, FW2, FW3, FW4, FW5, FW6, FW7, FW8, ES, eqq, SL, ↓reduceIte, Nat.reduceEqDiff, Nat.reduceLT, Nat.reduceLeDiff, Nat.reduceAdd, Nat.reduceMul, Nat.reduceSub, Nat.reduceBEq, Int.reduceLE, Int.reduceLT, Int.reduceNeg, Int.reduceToNat, Int.reduceEq, Int.reduceBEq, Int.reduceBNe, Nat.reduceBNe, bne_self_eq_false, reduceCtorEq, e] | (rewrite [if_pos]; rotate_left; focus (first | omega | (simp only [List.length_map, List.length_append, List.length_cons, List.length_nil, List.length_replicate, List.length_take, List.length_drop, List.length_set, e]; omega) | (refine ⟨?_, ?_⟩ <;> (simp only [List.length_map, List.length_append, List.length_cons, List.length_nil, List.length_replicate, List.length_take, List.length_drop, List.length_set, e] <;> omega)))) | (rewrite [if_neg]; rotate_left; focus (first | omega | (simp only [List.length_map, List.length_append, List.length_cons, List.length_nil, List.length_replicate, List.length_take, List.length_drop, List.length_set, e]; omega) | (refine ⟨?_, ?_⟩ <;> (simp only [List.length_map, List.length_append, List.length_cons, List.length_nil, List.length_replicate, List.length_take, List.length_drop, List.length_set, e] <;> omega)))))); with_reducible rfl)) ?_
      refine AWP.block ?_
      generalize hS : layK s' (p'.zip ks') = S
      have hSl : S.length = s'.length := by rw [← hS]; exact layK_len _ _
      refine AWP.loop (G := { k : Nat // k ≤ p'.length }) (fun k => ⟨[(0, .ptr 0 0 []), (52, .own 3), (53, .t (.int .i64 (p'.length : Int))), (54, .t (.int .i64 (k.1 : Int)))], [dk 1 2 3 l off, .sq 128 (sect S), .sq 128 (sect (layO S n' (p'.take k.1))), .sq 129 (pnd p')]⟩) (fun k => p'.length - k.1) ⟨0, by omega⟩ (Weak.to [0, 52, 53, 54] [0, 1, 2, 3] (show okIds 4 [0, 1, 2, 3] by decide) (by simp only [FW1, FW2, FW3, FW4, FW5, FW6, FW7, FW8, ES, eqq, SL, ↓reduceIte, Nat.reduceEqDiff, Nat.reduceLT, Nat.reduceLeDiff, Nat.reduceAdd, Nat.reduceMul, Nat.reduceSub, Nat.reduceBEq, Int.reduceLE, Int.reduceLT, Int.reduceNeg, Int.reduceToNat, Int.reduceEq, Int.reduceBEq, Int.reduceBNe, Nat.reduceBNe, bne_self_eq_false, reduceCtorEq, layO, List.foldl_nil])) ?_
      intro ⟨k, hk⟩
      refine AWP.gseq X_ok cl13 [0, 1, 4, 5, 6, 8, 10, 18, 19, 20, 52, 53, 54, 55] (by ((repeat (first | simp only [FW1, FW2, FW3, FW4, FW5, FW6, FW7, FW8, ES, eqq, SL, ↓reduceIte, Nat.reduceEqDiff, Nat.reduceLT, Nat.reduceLeDiff, Nat.reduceAdd, Nat.reduceMul, Nat.reduceSub, Nat.reduceBEq, Int.reduceLE, Int.reduceLT, Int.reduceNeg, Int.reduceToNat, Int.reduceEq, Int.reduceBEq, Int.reduceBNe, Nat.reduceBNe, bne_self_eq_false, reduceCtorEq] | (rewrite [if_pos]; rotate_left; focus (first | omega | (simp only [List.length_map, List.length_append, List.length_cons, List.length_nil, List.length_replicate, List.length_take, List.length_drop, List.length_set]; omega) | (refine ⟨?_, ?_⟩ <;> (simp only [List.length_map, List.length_append, List.length_cons, List.length_nil, List.length_replicate, List.length_take, List.length_drop, List.length_set] <;> omega)))) | (rewrite [if_neg]; rotate_left; focus (first | omega | (simp only [List.length_map, List.length_append, List.length_cons, List.length_nil, List.length_replicate, List.length_take, List.length_drop, List.length_set]; omega) | (refine ⟨?_, ?_⟩ <;> (simp only [List.length_map, List.length_append, List.length_cons, List.length_nil, List.length_replicate, List.length_take, List.length_drop, List.length_set] <;> omega)))))); with_reducible rfl)) ?_
      by_cases hlt : (k : Int) < (p'.length : Int)
      · refine AWP.seq (AWP.condT (by simp only [FW1, FW2, FW3, FW4, FW5, FW6, FW7, FW8, ES, eqq, SL, ↓reduceIte, Nat.reduceEqDiff, Nat.reduceLT, Nat.reduceLeDiff, Nat.reduceAdd, Nat.reduceMul, Nat.reduceSub, Nat.reduceBEq, Int.reduceLE, Int.reduceLT, Int.reduceNeg, Int.reduceToNat, Int.reduceEq, Int.reduceBEq, Int.reduceBNe, Nat.reduceBNe, bne_self_eq_false, reduceCtorEq, hlt]) (AWP.skip ?_))
        show AWP _ _ _ _ _ _
        refine AWP.seq (AWP.block ?_)
        have hkl : k < p'.length := by omega
        obtain ⟨w, hw⟩ : ∃ w, p'[k]? = some w := ⟨p'[k], List.getElem?_eq_getElem hkl⟩
        obtain ⟨w1, w2⟩ := w
        have hget := pnd_get p' k _ hw
        obtain ⟨f1, f2⟩ := fitP_get hc3 hw
        simp only at f1 f2 hget
        have hlen : (layO S n' (p'.take k)).length = s'.length := by rw [layO_len]; exact hc1
        refine AWP.gseq X_ok cl13 [0, 1, 4, 5, 6, 8, 10, 18, 19, 20, 52, 53, 54, 55] (by ((repeat (first | simp only [FW1, FW2, FW3, FW4, FW5, FW6, FW7, FW8, ES, eqq, SL, ↓reduceIte, Nat.reduceEqDiff, Nat.reduceLT, Nat.reduceLeDiff, Nat.reduceAdd, Nat.reduceMul, Nat.reduceSub, Nat.reduceBEq, Int.reduceLE, Int.reduceLT, Int.reduceNeg, Int.reduceToNat, Int.reduceEq, Int.reduceBEq, Int.reduceBNe, Nat.reduceBNe, bne_self_eq_false, reduceCtorEq, hget, hkl] | (rewrite [if_pos]; rotate_left; focus (first | omega | (simp only [List.length_map, List.length_append, List.length_cons, List.length_nil, List.length_replicate, List.length_take, List.length_drop, List.length_set, hget, hkl]; omega) | (refine ⟨?_, ?_⟩ <;> (simp only [List.length_map, List.length_append, List.length_cons, List.length_nil, List.length_replicate, List.length_take, List.length_drop, List.length_set, hget, hkl] <;> omega)))) | (rewrite [if_neg]; rotate_left; focus (first | omega | (simp only [List.length_map, List.length_append, List.length_cons, List.length_nil, List.length_replicate, List.length_take, List.length_drop, List.length_set, hget, hkl]; omega) | (refine ⟨?_, ?_⟩ <;> (simp only [List.length_map, List.length_append, List.length_cons, List.length_nil, List.length_replicate, List.length_take, List.length_drop, List.length_set, hget, hkl] <;> omega)))))); with_reducible rfl)) ?_
        have hn : w1.toNat < s'.length := by omega
        have hsg := sect_get S w1.toNat (by omega)
        have hsg2 := sect_get (layO S n' (p'.take k)) w1.toNat (by omega)
        refine AWP.gdraw X_ok cl13 [0, 1, 4, 5, 6, 8, 10, 18, 19, 20, 52, 53, 54, 55] mix [⟨0, [0], []⟩, ⟨0, [58], []⟩, ⟨0, [59], []⟩, ⟨1, [60], []⟩, ⟨0, [8], []⟩, ⟨1, [62], []⟩, ⟨0, [0], []⟩, ⟨0, [64], []⟩, ⟨0, [65], []⟩, ⟨1, [66], []⟩, ⟨0, [8], []⟩, ⟨1, [68], []⟩, ⟨1, [67, 69], [9, 11]⟩, ⟨1, [70], [9, 11, 12]⟩, ⟨1, [61, 63], [3, 5, 9, 11, 12, 13]⟩, ⟨2, [71, 72], [3, 5, 9, 11, 12, 13, 14]⟩] (by kernel_rfl) (by ((repeat (first | simp only [FW1, FW2, FW3, FW4, FW5, FW6, FW7, FW8, ES, eqq, SL, ↓reduceIte, Nat.reduceEqDiff, Nat.reduceLT, Nat.reduceLeDiff, Nat.reduceAdd, Nat.reduceMul, Nat.reduceSub, Nat.reduceBEq, Int.reduceLE, Int.reduceLT, Int.reduceNeg, Int.reduceToNat, Int.reduceEq, Int.reduceBEq, Int.reduceBNe, Nat.reduceBNe, bne_self_eq_false, reduceCtorEq, hsg, hsg2, hn, hlen, hSl] | (rewrite [if_pos]; rotate_left; focus (first | omega | (simp only [List.length_map, List.length_append, List.length_cons, List.length_nil, List.length_replicate, List.length_take, List.length_drop, List.length_set, hsg, hsg2, hn, hlen, hSl]; omega) | (refine ⟨?_, ?_⟩ <;> (simp only [List.length_map, List.length_append, List.length_cons, List.length_nil, List.length_replicate, List.length_take, List.length_drop, List.length_set, hsg, hsg2, hn, hlen, hSl] <;> omega)))) | (rewrite [if_neg]; rotate_left; focus (first | omega | (simp only [List.length_map, List.length_append, List.length_cons, List.length_nil, List.length_replicate, List.length_take, List.length_drop, List.length_set, hsg, hsg2, hn, hlen, hSl]; omega) | (refine ⟨?_, ?_⟩ <;> (simp only [List.length_map, List.length_append, List.length_cons, List.length_nil, List.length_replicate, List.length_take, List.length_drop, List.length_set, hsg, hsg2, hn, hlen, hSl] <;> omega)))))); with_reducible rfl)) ?_
        show AWP _ _ _ _ _ _
        have hk1 : IntKind.i64.wrap ((k : Int) + 1) = ((k + 1 : Nat) : Int) := by rw [wrap_i64 (by omega) (by omega)]; omega
        refine AWP.greg X_ok cl13 [0, 1, 4, 5, 6, 8, 10, 18, 19, 20, 52, 53, 54, 55] (by ((repeat (first | simp only [FW1, FW2, FW3, FW4, FW5, FW6, FW7, FW8, ES, eqq, SL, ↓reduceIte, Nat.reduceEqDiff, Nat.reduceLT, Nat.reduceLeDiff, Nat.reduceAdd, Nat.reduceMul, Nat.reduceSub, Nat.reduceBEq, Int.reduceLE, Int.reduceLT, Int.reduceNeg, Int.reduceToNat, Int.reduceEq, Int.reduceBEq, Int.reduceBNe, Nat.reduceBNe, bne_self_eq_false, reduceCtorEq, hk1] | (rewrite [if_pos]; rotate_left; focus (first | omega | (simp only [List.length_map, List.length_append, List.length_cons, List.length_nil, List.length_replicate, List.length_take, List.length_drop, List.length_set, hk1]; omega) | (refine ⟨?_, ?_⟩ <;> (simp only [List.length_map, List.length_append, List.length_cons, List.length_nil, List.length_replicate, List.length_take, List.length_drop, List.length_set, hk1] <;> omega)))) | (rewrite [if_neg]; rotate_left; focus (first | omega | (simp only [List.length_map, List.length_append, List.length_cons, List.length_nil, List.length_replicate, List.length_take, List.length_drop, List.length_set, hk1]; omega) | (refine ⟨?_, ?_⟩ <;> (simp only [List.length_map, List.length_append, List.length_cons, List.length_nil, List.length_replicate, List.length_take, List.length_drop, List.length_set, hk1] <;> omega)))))); with_reducible rfl)) ?_
        have hstep : List.map (T.ba 128) (layO S n' (p'.take (k + 1))) = (List.map (T.ba 128) (layO S n' (p'.take k))).set w1.toNat (.ba 128 (S.getD w1.toNat [])) := by
          rw [List.take_add_one, hw]
          simp only [Option.toList, layO_snoc, over1, List.map_set]
        exact ⟨⟨k + 1, by omega⟩, Weak.to [0, 52, 53, 54] [0, 1, 2, 3] (show okIds 4 [0, 1, 2, 3] by decide) (by simp only [FW1, FW2, FW3, FW4, FW5, FW6, FW7, FW8, ES, eqq, SL, ↓reduceIte, Nat.reduceEqDiff, Nat.reduceLT, Nat.reduceLeDiff, Nat.reduceAdd, Nat.reduceMul, Nat.reduceSub, Nat.reduceBEq, Int.reduceLE, Int.reduceLT, Int.reduceNeg, Int.reduceToNat, Int.reduceEq, Int.reduceBEq, Int.reduceBNe, Nat.reduceBNe, bne_self_eq_false, reduceCtorEq, hstep]), by simp only; omega⟩
      · refine AWP.seq (AWP.condF (by simp only [FW1, FW2, FW3, FW4, FW5, FW6, FW7, FW8, ES, eqq, SL, ↓reduceIte, Nat.reduceEqDiff, Nat.reduceLT, Nat.reduceLeDiff, Nat.reduceAdd, Nat.reduceMul, Nat.reduceSub, Nat.reduceBEq, Int.reduceLE, Int.reduceLT, Int.reduceNeg, Int.reduceToNat, Int.reduceEq, Int.reduceBEq, Int.reduceBNe, Nat.reduceBNe, bne_self_eq_false, reduceCtorEq, hlt]) (AWP.exit ?_))
        obtain rfl : k = p'.length := by omega
        show AWP _ _ _ _ _ _
        have e : p'.take p'.length = p' := List.take_length
        refine AWP.gregW X_ok cl13 [0, 1, 4, 5, 6, 8, 10, 18, 19, 20, 52, 53, 54, 55] (by ((repeat (first | simp only [FW1, FW2, FW3, FW4, FW5, FW6, FW7, FW8, ES, eqq, SL, ↓reduceIte, Nat.reduceEqDiff, Nat.reduceLT, Nat.reduceLeDiff, Nat.reduceAdd, Nat.reduceMul, Nat.reduceSub, Nat.reduceBEq, Int.reduceLE, Int.reduceLT, Int.reduceNeg, Int.reduceToNat, Int.reduceEq, Int.reduceBEq, Int.reduceBNe, Nat.reduceBNe, bne_self_eq_false, reduceCtorEq, e] | (rewrite [if_pos]; rotate_left; focus (first | omega | (simp only [List.length_map, List.length_append, List.length_cons, List.length_nil, List.length_replicate, List.length_take, List.length_drop, List.length_set, e]; omega) | (refine ⟨?_, ?_⟩ <;> (simp only [List.length_map, List.length_append, List.length_cons, List.length_nil, List.length_replicate, List.length_take, List.length_drop, List.length_set, e] <;> omega)))) | (rewrite [if_neg]; rotate_left; focus (first | omega | (simp only [List.length_map, List.length_append, List.length_cons, List.length_nil, List.length_replicate, List.length_take, List.length_drop, List.length_set, e]; omega) | (refine ⟨?_, ?_⟩ <;> (simp only [List.length_map, List.length_append, List.length_cons, List.length_nil, List.length_replicate, List.length_take, List.length_drop, List.length_set, e] <;> omega)))))); with_reducible rfl)) (Weak.ownBx (v' := _) 0 [2] 2 (.sq 129 []) rfl (by simp only [FW1, FW2, FW3, FW4, FW5, FW6, FW7, FW8, ES, eqq, SL, ↓reduceIte, Nat.reduceEqDiff, Nat.reduceLT, Nat.reduceLeDiff, Nat.reduceAdd, Nat.reduceMul, Nat.reduceSub, Nat.reduceBEq, Int.reduceLE, Int.reduceLT, Int.reduceNeg, Int.reduceToNat, Int.reduceEq, Int.reduceBEq, Int.reduceBNe, Nat.reduceBNe, bne_self_eq_false, reduceCtorEq]) (by simp only [FW1, FW2, FW3, FW4, FW5, FW6, FW7, FW8, ES, eqq, SL, ↓reduceIte, Nat.reduceEqDiff, Nat.reduceLT, Nat.reduceLeDiff, Nat.reduceAdd, Nat.reduceMul, Nat.reduceSub, Nat.reduceBEq, Int.reduceLE, Int.reduceLT, Int.reduceNeg, Int.reduceToNat, Int.reduceEq, Int.reduceBEq, Int.reduceBNe, Nat.reduceBNe, bne_self_eq_false, reduceCtorEq]) (by simp only [FW1, FW2, FW3, FW4, FW5, FW6, FW7, FW8, ES, eqq, SL, ↓reduceIte, Nat.reduceEqDiff, Nat.reduceLT, Nat.reduceLeDiff, Nat.reduceAdd, Nat.reduceMul, Nat.reduceSub, Nat.reduceBEq, Int.reduceLE, Int.reduceLT, Int.reduceNeg, Int.reduceToNat, Int.reduceEq, Int.reduceBEq, Int.reduceBNe, Nat.reduceBNe, bne_self_eq_false, reduceCtorEq]; rfl) (.inr ⟨_, by decide, rfl⟩)) ?_
        exact ⟨.inl rfl, [], [0, 1, 2, 3, 4], (show okIds 4 [0, 1, 2, 3, 4] by decide), rfl, rfl⟩

end Go.Fw
