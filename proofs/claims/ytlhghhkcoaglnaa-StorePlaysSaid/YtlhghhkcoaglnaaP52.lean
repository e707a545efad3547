/- The abstract machine, and the contracts of the code: part 52. -/
import Derived.Test.YtlhghhkcoaglnaaP51

section
/- What the document's opening gives back, step by step. Plain laws. -/
namespace Go.Fw
open Go
set_option linter.unusedVariables false
set_option linter.unusedSimpArgs false

theorem backU_e (n : Nat) : ∀ (l : List Nat) (k : Nat) (t : TP), t.e ≠ 0 → backU n k l t = t
  | [], _, _, _ => rfl
  | i :: l, k, t, h => by rw [backU, if_neg h]
theorem backU_app (n : Nat) (r : List Nat) : ∀ (l : List Nat) (k : Nat) (t : TP), backU n k (l ++ r) t = backU n (k + l.length) r (backU n k l t)
  | [], k, t => rfl
  | i :: l, k, t => by
    by_cases he : t.e = 0
    · rw [List.cons_append, backU, if_pos he, backU_app n r l (k + 1), backU, if_pos he, List.length_cons]
      rw [show k + 1 + l.length = k + (l.length + 1) by omega]
    · rw [backU_e n _ k t he, backU_e n (i :: l) k t he, backU_e n r _ t he]
theorem backU_take {n : Nat} {s : List Nat} {k : Nat} {t : TP} (h : (backU n 0 (s.take k) t).e ≠ 0) : backU n 0 s t = backU n 0 (s.take k) t := by
  have := backU_app n (s.drop k) (s.take k) 0 t
  rw [List.take_append_drop, backU_e n _ _ _ h] at this
  exact this
theorem backU_step {n : Nat} {s : List Nat} {k i : Nat} {t : TP} (hk : s[k]? = some i) (he : (backU n 0 (s.take k) t).e = 0) :
    backU n 0 (s.take (k + 1)) t = putU (backU n 0 (s.take k) t) ((1 + lstN n + i : Nat) : Int) (rdB 1 ((1 + lstN n + n + k : Nat) : Int) (backU n 0 (s.take k) t).d) := by
  have hlt := (List.getElem?_eq_some_iff.1 hk).1
  rw [List.take_add_one, hk]
  show backU n 0 (s.take k ++ [i]) t = _
  rw [backU_app, backU, if_pos he, backU]
  have : (s.take k).length = k := by rw [List.length_take]; omega
  rw [this, Nat.zero_add]
theorem putU_few {t : TP} {w m : Nat} (h : t.d.few w m) (hm : m + 1 ≤ 99999) {i : Int} {b : List UInt8} : (putU t i b).d.few w (m + 1) := by
  unfold putU
  split
  · exact putR_few h hm
  · exact ⟨h.g, h.w, Nat.le_succ_of_le h.p⟩
theorem backU_few {n w : Nat} : ∀ (l : List Nat) (k m : Nat) (t : TP), t.d.few w m → m + l.length ≤ 99999 → (backU n k l t).d.few w (m + l.length)
  | [], k, m, t, h, _ => h
  | i :: l, k, m, t, h, hm => by
    rw [List.length_cons] at hm ⊢
    by_cases he : t.e = 0
    · rw [backU, if_pos he]
      have := backU_few (n := n) l (k + 1) (m + 1) _ (putU_few (i := ((1 + lstN n + i : Nat) : Int)) (b := rdB 1 ((1 + lstN n + n + k : Nat) : Int) t.d) h (by omega)) (by omega)
      rw [show m + (l.length + 1) = m + 1 + l.length by omega]
      exact this
    · rw [backU, if_neg he]
      exact ⟨h.g, h.w, Nat.le_trans h.p (by omega)⟩
theorem namN_is {b : List UInt8} {n : Nat} : ∀ (f k : Nat) (acc s : List Nat), namN b n f k acc = some s → ∀ j, j < f → numAt b (4 * (k + j + 1)) < n ∧ s[acc.length + j]? = some (numAt b (4 * (k + j + 1)))
  | 0, _, _, _, _, _, hj => by omega
  | f + 1, k, acc, s, h, j, hj => by
    unfold namN at h
    split at h
    · cases h
    · rename_i hlt
      cases j with
      | zero =>
        refine ⟨by rw [Nat.add_zero]; omega, ?_⟩
        have hp : ∀ (f k : Nat) (acc s : List Nat), namN b n f k acc = some s → ∀ q, q < acc.length → s[q]? = acc[q]? := by
          intro f
          induction f with
          | zero => intro k acc s h q _; cases h; rfl
          | succ f ih =>
            intro k acc s h q hq
            unfold namN at h
            split at h
            · cases h
            · rw [ih _ _ _ h q (by simp; omega), List.getElem?_append_left hq]
        rw [hp _ _ _ _ h _ (by simp), Nat.add_zero]
        simp
      | succ j =>
        have := namN_is f (k + 1) _ s h j (by omega)
        rw [show k + (j + 1) = k + 1 + j by omega]
        refine ⟨this.1, ?_⟩
        have h2 := this.2
        rw [List.length_append] at h2
        rw [show acc.length + (j + 1) = acc.length + 1 + j by omega]
        exact h2
theorem named_is {b : List UInt8} {n : Nat} {s : List Nat} (h : named b n = some s) : s.length = numAt b 0 ∧ numAt b 0 ≤ n ∧ ∀ j, j < numAt b 0 → numAt b (4 * (j + 1)) < n ∧ s[j]? = some (numAt b (4 * (j + 1))) := by
  unfold named at h
  split at h
  · cases h
  · have h1 := namN_len _ _ _ _ h
    refine ⟨by simpa using h1, by omega, fun j hj => ?_⟩
    have := namN_is _ _ _ _ h j hj
    rw [Nat.zero_add] at this
    simpa using this

theorem backD_few {d : RD} {n w m : Nat} (h : d.few w m) (hm : m + n + 1 ≤ 99999) : (backD n d).d.few w (m + n + 1) := by
  have hw : d.few w (m + n + 1) := ⟨h.g, h.w, Nat.le_trans h.p (by omega)⟩
  unfold backD
  dsimp only
  split
  · exact hw
  · cases hnm : named (rdB (lstN n) 1 d) n with
    | none => exact hw
    | some s =>
      have hs := named_len hnm
      have := flagT_few (syncT_few (backU_few (n := n) s 0 m ⟨d, 0⟩ h (by omega))) (by omega) (on := 0)
      exact ⟨this.g, this.w, Nat.le_trans this.p (by omega)⟩
theorem putU_on {t : TP} (h : t.on) (i : Int) (b : List UInt8) : (putU t i b).on := by
  unfold putU
  split
  · exact fun he => putR_on he
  · exact h
theorem backU_on {n : Nat} : ∀ (l : List Nat) (k : Nat) (t : TP), t.on → (backU n k l t).on
  | [], _, _, h => h
  | i :: l, k, t, h => by
    unfold backU
    split
    · exact backU_on l (k + 1) _ (putU_on h _ _)
    · exact h
theorem backD_on {d : RD} {n : Nat} (hs : 0 < d.s.length) : (backD n d).on := by
  unfold backD
  dsimp only
  split
  · rename_i hc
    intro he
    dsimp only at he ⊢
    cases ho : d.off with
    | false => rfl
    | true => rw [getD_down ho (by omega) (by omega)] at he; cases he
  · rename_i hc
    have hof : d.off = false := by
      cases ho : d.off with
      | false => rfl
      | true => rw [getD_down ho (by omega) (by omega)] at hc; exact (hc (.inl (by decide))).elim
    cases named (rdB (lstN n) 1 d) n with
    | none => intro he; cases he
    | some s => exact syncT_on (putT_on (syncT_on (backU_on s 0 _ (fun _ => hof))) _ _)
/-- An opening, as the document says it. -/
theorem open_ref {d : RD} {w m : Nat} (h : d.few w m) (hm : m + w ≤ 99999) (hn0 : slots w ≠ 0) :
    openS d = (let n := slots w; let t := backD n d; if t.e ≠ 0 then (none, t.d, t.e) else
      if roomN n < (numAt (rdB n ((1 + lstN n : Nat) : Int) t.d) 0 : Int) then (none, t.d, 3)
      else (some ⟨n, ((rdB n ((1 + lstN n : Nat) : Int) t.d).drop 4).take (numAt (rdB n ((1 + lstN n : Nat) : Int) t.d) 0), false⟩, t.d, 0)) := by
  have hw := slots_fit (sec := w) (by omega)
  unfold openS
  rw [h.w]
  dsimp only
  generalize slots w = n at *
  rw [if_neg hn0, undo_back h (by omega) hw (by omega)]
  have hon := backD_on (d := d) (n := n) (by rw [h.w]; omega)
  have hfw := (backD_few (n := n) h (by omega)).w
  generalize backD n d = t at *
  by_cases he : t.e = 0
  · have hg := getT_on (hon he) n ((1 + lstN n : Nat) : Int) (by omega) (by rw [hfw]; omega)
    obtain ⟨d', e'⟩ := t
    dsimp only at he hg ⊢
    subst he
    rw [hg]
  · rw [if_pos he, getT_err n _ t.d he]
    dsimp only
    rw [if_pos he]

end Go.Fw

end

section
/- The document's store: what an opening does first. -/
namespace Go.Fw
open Go Go.Proofs
set_option linter.unusedVariables false
set_option linter.unusedSimpArgs false

noncomputable def G45 : GFun
  | HB, [.ptr 0 0 [], .t (.int .i64 n)] => match inv tqH HB with
    | some t => @ite _ (((t.d.good = true ∧ t.d.p.length ≤ 80000) ∧ (0 < n ∧ n ≤ 10000) ∧ 1 + lstN n.toNat + 2 * n.toNat ≤ t.d.s.length)) (Classical.propDecidable _) ((some (tqH (backD n.toNat t.d), .tup []))) none
    | none => none
  | _, _ => none

theorem ct45 : CT [(46, ⟨[false, false, false], treeG F46⟩), (47, ⟨[false], treeG F47⟩), (48, ⟨[false, false], treeG F48⟩), (53, ⟨[true, false, false], G53⟩), (54, ⟨[true], G54⟩), (55, ⟨[false], treeG F55⟩), (68, ⟨[false, false], treeG F68⟩)] [0, 1, 4, 5, 6, 7, 8, 9, 10, 30, 42, 48, 57, 73] [(3, [⟨0, [0], [], []⟩, ⟨0, [31], [], []⟩, ⟨0, [32], [], []⟩, ⟨1, [33], [], []⟩, ⟨0, [1], [], []⟩, ⟨1, [35], [], []⟩, ⟨1, [34, 36], [3, 5], []⟩, ⟨0, [37], [3, 5, 6], []⟩]), (16, [⟨0, [0], [], []⟩, ⟨0, [9], [], []⟩, ⟨0, [6], [], []⟩, ⟨0, [10], [], []⟩, ⟨0, [79], [], []⟩, ⟨0, [80], [], []⟩, ⟨1, [78, 81], [], []⟩, ⟨0, [77, 82], [6], []⟩, ⟨0, [0], [], []⟩, ⟨0, [84], [], []⟩, ⟨0, [85], [], []⟩, ⟨1, [86], [], []⟩, ⟨0, [9], [], []⟩, ⟨0, [1], [], []⟩, ⟨0, [88, 89], [], []⟩, ⟨0, [10], [], []⟩, ⟨0, [90, 91], [], []⟩, ⟨1, [87, 92], [6, 11], []⟩, ⟨2, [76, 83, 93], [6, 11, 17], []⟩])] := ⟨(.cons c46.g (.cons c47.g (.cons c48.g (.cons g53 (.cons g54 (.cons c55.g (.cons c68.g (.nil _))))))))⟩

set_option maxRecDepth 8000 in
set_option maxHeartbeats 4000000 in
theorem g45 : GCon Try.prog 45 G45 := by
  refine gconc E_ok (rs := []) Try.func45 rfl Try.ntmps45 (by kernel_rfl) rfl (by decide) G45 (np := 2) ?_ ?_
  · intro HB xs h; unfold G45; split <;> first | rfl | (simp at h; done)
  intro HB xs H r hG hwf hex
  unfold G45 at hG
  split at hG <;> try (cases hG; done)
  rename_i HB n
  split at hG <;> try (cases hG; done)
  rename_i t ht
  split at hG
  case isFalse => cases hG
  rename_i hc
  cases hG
  obtain rfl := inv_inv ht
  clear ht hex hwf
  obtain ⟨⟨hg, hp⟩, ⟨hn0, hn1⟩, hw⟩ := hc
  obtain ⟨m, rfl⟩ : ∃ m : Nat, n = (m : Int) := ⟨n.toNat, by omega⟩
  rw [Int.toNat_natCast] at hw ⊢
  obtain ⟨d, e⟩ := t
  dsimp only at hg hp hw ⊢
  have hok := (good_iff.1 hg).1
  have hfew : d.few d.s.length 80000 := ⟨hg, rfl, hp⟩
  have hr0 := rread_c hok 0
  have hlp : 0 < lstN m := by unfold lstN; omega
  have hll := lstN_le m
  have hg0 := getD_len hg 0
  simp only [tqH, backD]
  generalize hgd : getD d 0 = R at *
  obtain ⟨fl, fe⟩ := R
  dsimp only at hr0 hg0 ⊢
  by_cases hfe : fe = 0
  rotate_left
  · have hfe2 : (fe != 0) = true := by simpa using hfe
    rw [if_pos (.inl hfe)]
    repeat refine St (And.intro (And.intro @gentry.eq_1 <| @gentry.eq_2) <| And.intro hr0 <| hfe2) ct45 ?_
    exact AWP.ret (Fin trivial [] [0])
  subst hfe
  have hfl := hg0.2 rfl
  have hfl0 : 0 < fl.length := by omega
  by_cases hz : fl.getD 0 0 = 0
  · rw [if_pos (.inr hz)]
    have hz2 : ((fl.getD 0 0).toNat : Int) = 0 := by rw [hz]; rfl
    repeat refine St (And.intro (And.intro @gentry.eq_1 <| @gentry.eq_2) <| And.intro hr0 <| And.intro hfl0 <| hz2) ct45 ?_
    exact AWP.ret (Fin trivial [] [0])
  rw [if_neg (by rintro (h | h); · exact h rfl
                 · exact hz h)]
  have hz2 : (((fl.getD 0 0).toNat : Int) == 0) = false := by
    have : (fl.getD 0 0).toNat ≠ 0 := fun h => hz (UInt8.toNat_inj.1 h)
    rw [beq_eq_false_iff_ne]; omega
  have hli := rlists_c (n := m) (by omega)
  have hrd := rreads_c (n := lstN m) hg (i := 1) (by omega) (by omega) (by omega)
  have hof : d.off = false := by
    cases ho : d.off with
    | false => rfl
    | true => rw [getD_down ho (by omega) (by omega)] at hgd; cases hgd
  have hLl := rdB_len hg hof (lstN m) 1 (by omega)
  rw [show ((1 : Nat) : Int) = 1 from rfl] at hLl
  generalize rdB (lstN m) 1 d = L at *
  have hnum : ∀ a, a + 4 ≤ L.length → F48 [.by L, .int .i64 (a : Int)] = some ([], .t (.int .i64 (numAt L a : Int))) := fun a ha => rnumber_c ha (by omega)
  have h0 := hnum 0 (by omega)
  rw [show ((0 : Nat) : Int) = 0 from rfl] at h0
  by_cases hcn : m < numAt L 0
  · have hcn2 : (m : Int) < (numAt L 0 : Int) := by omega
    have hnm2 : named L m = none := by unfold named; rw [if_pos hcn]
    rw [hnm2]
    repeat refine St (And.intro (And.intro @gentry.eq_1 <| @gentry.eq_2) <| And.intro hr0 <| And.intro hfl0 <| And.intro hz2 <| And.intro hli <| And.intro hrd <| And.intro h0 <| hcn2) ct45 ?_
    exact AWP.ret (Fin trivial [] [0])
  have hcn2 : ¬ (m : Int) < (numAt L 0 : Int) := by omega
  have hwk : ∀ k : Nat, k < 100000 → IntKind.i64.wrap ((k : Int) + 1) = ((k + 1 : Nat) : Int) ∧ IntKind.i64.wrap (4 * (k : Int)) = ((4 * k : Nat) : Int) ∧ IntKind.i64.wrap (4 + ((4 * k : Nat) : Int)) = ((4 * (k + 1) : Nat) : Int) := fun k hk => by
    refine ⟨?_, ?_, ?_⟩ <;> (rw [wrap_i64 (by omega) (by omega)]; omega)
  have hnn : named L m = namN L m (numAt L 0) 0 [] := by unfold named; rw [if_neg hcn]
  have h4c : 4 + 4 * numAt L 0 ≤ L.length := by unfold lstN at hLl; omega
  cases hnm : named L m with
  | none =>
    rw [hnm] at hnn
    repeat refine St (And.intro (And.intro @gentry.eq_1 <| @gentry.eq_2) <| And.intro hr0 <| And.intro hfl0 <| And.intro hz2 <| And.intro hli <| And.intro hrd <| And.intro h0 <| hcn2) ct45 ?_
    refine AWP.loop (G := { k : Nat // k ≤ numAt L 0 ∧ ∃ acc, namN L m (numAt L 0 - k) k acc = none }) (fun k => ⟨[(0, .ptr 0 0 []), (1, .t (.int .i64 (m : Int))), (6, .t (.by L)), (7, .t (.int .i64 (numAt L 0 : Int))), (8, .t (.int .i64 (k.1 : Int)))], [.bx (.t (.st [.st [.sq 1 (d.s.map T.str), .sq 2 (d.p.map rp1), .int .i64 d.l, .bool d.off], .int .i64 0]))]⟩) (fun k => numAt L 0 - k.1) ⟨0, by omega, [], hnn.symm⟩ (Wt trivial [0, 1, 6, 7, 8] [0]) ?_
    rintro ⟨k, hk, acc, hacc⟩
    dsimp only
    have hklt : k < numAt L 0 := by
      rcases Nat.lt_or_ge k (numAt L 0) with h | h
      · exact h
      · rw [show numAt L 0 - k = 0 by omega] at hacc; cases hacc
    have hlt2 : (k : Int) < (numAt L 0 : Int) := by omega
    obtain ⟨w1, w2, w3⟩ := hwk k (by omega)
    have hk4 := hnum (4 * (k + 1)) (by omega)
    rw [show numAt L 0 - k = (numAt L 0 - (k + 1)) + 1 by omega, namN] at hacc
    by_cases hge : m ≤ numAt L (4 * (k + 1))
    · have hge2 : (m : Int) ≤ (numAt L (4 * (k + 1)) : Int) := by omega
      generalize numAt L 0 = C at *
      generalize numAt L (4 * (k + 1)) = X at *
      repeat refine St (And.intro hlt2 <| And.intro w1 <| And.intro w2 <| And.intro w3 <| And.intro hk4 <| hge2) ct45 ?_
      exact AWP.ret (Fin trivial [] [0])
    · rw [if_neg hge] at hacc
      have hge2 : ¬ (m : Int) ≤ (numAt L (4 * (k + 1)) : Int) := by omega
      generalize numAt L 0 = C at *
      generalize numAt L (4 * (k + 1)) = X at *
      repeat refine St (And.intro hlt2 <| And.intro w1 <| And.intro w2 <| And.intro w3 <| And.intro hk4 <| hge2) ct45 ?_
      exact ⟨⟨k + 1, by omega, _, hacc⟩, (Wt trivial [0, 1, 6, 7, 8] [0]), by simp only; omega⟩
  | some s =>
    dsimp only
    obtain ⟨hsl, _, hsi⟩ := named_is hnm
    repeat refine St (And.intro (And.intro @gentry.eq_1 <| @gentry.eq_2) <| And.intro hr0 <| And.intro hfl0 <| And.intro hz2 <| And.intro hli <| And.intro hrd <| And.intro h0 <| hcn2) ct45 ?_
    refine AWP.loop (G := { k : Nat // k ≤ numAt L 0 }) (fun k => ⟨[(0, .ptr 0 0 []), (1, .t (.int .i64 (m : Int))), (6, .t (.by L)), (7, .t (.int .i64 (numAt L 0 : Int))), (8, .t (.int .i64 (k.1 : Int)))], [.bx (.t (.st [.st [.sq 1 (d.s.map T.str), .sq 2 (d.p.map rp1), .int .i64 d.l, .bool d.off], .int .i64 0]))]⟩) (fun k => numAt L 0 - k.1) ⟨0, by omega⟩ (Wt trivial [0, 1, 6, 7, 8] [0]) ?_
    rintro ⟨k, hk⟩
    dsimp only
    by_cases hklt : k < numAt L 0
    · have hlt2 : (k : Int) < (numAt L 0 : Int) := by omega
      obtain ⟨w1, w2, w3⟩ := hwk k (by omega)
      have hk4 := hnum (4 * (k + 1)) (by omega)
      have hge2 : ¬ (m : Int) ≤ (numAt L (4 * (k + 1)) : Int) := by have := (hsi k hklt).1; omega
      generalize numAt L 0 = C at *
      generalize numAt L (4 * (k + 1)) = X at *
      repeat refine St (And.intro hlt2 <| And.intro w1 <| And.intro w2 <| And.intro w3 <| And.intro hk4 <| hge2) ct45 ?_
      exact ⟨⟨k + 1, by omega⟩, (Wt trivial [0, 1, 6, 7, 8] [0]), by simp only; omega⟩
    obtain rfl : k = numAt L 0 := by omega
    have hlt2 : ¬ (numAt L 0 : Int) < (numAt L 0 : Int) := by omega
    have hwf1 : IntKind.i64.wrap (1 + (lstN m : Int)) = ((1 + lstN m : Nat) : Int) := by rw [wrap_i64 (by omega) (by omega)]; omega
    have hbf := fun k => backU_few (n := m) (s.take k) 0 80000 ⟨d, 0⟩ hfew (by rw [List.length_take]; omega)
    repeat refine St (And.intro hlt2 <| And.intro hli <| hwf1) ct45 ?_
    refine AWP.loop (G := { k : Nat // k ≤ numAt L 0 }) (fun k => ⟨[(0, .ptr 0 0 []), (1, .t (.int .i64 (m : Int))), (6, .t (.by L)), (7, .t (.int .i64 (numAt L 0 : Int))), (9, .t (.int .i64 ((1 + lstN m : Nat) : Int))), (10, .t (.int .i64 (k.1 : Int)))], tqH (backU m 0 (s.take k.1) ⟨d, 0⟩)⟩) (fun k => numAt L 0 - k.1) ⟨0, by omega⟩ (Wt (And.intro @List.take_zero.{0} <| And.intro (And.intro @backU.eq_1 <| @backU.eq_2) <| @tqH.eq_def) [0, 1, 6, 7, 9, 10] [0]) ?_
    rintro ⟨k, hk⟩
    dsimp only
    have hfk : (backU m 0 (s.take k) ⟨d, 0⟩).d.few d.s.length 90000 := ⟨(hbf k).g, (hbf k).w, Nat.le_trans (hbf k).p (by rw [List.length_take]; omega)⟩
    have hbk := backU_take (n := m) (s := s) (k := k) (t := ⟨d, 0⟩)
    have hsk := fun i h1 => backU_step (n := m) (s := s) (k := k) (i := i) (t := ⟨d, 0⟩) h1
    by_cases he : (backU m 0 (s.take k) ⟨d, 0⟩).e = 0
    rotate_left
    · rw [hbk he]
      have he2 : ((backU m 0 (s.take k) ⟨d, 0⟩).e == 0) = false := by simpa using he
      clear hbk hsk hbf
      generalize backU m 0 (s.take k) ⟨d, 0⟩ = t at *
      obtain ⟨d', e'⟩ := t
      dsimp only at hfk he ⊢
      have q1 := rtsync_c ⟨d', e'⟩ hfk.g
      have hf2 := syncT_few (t := ⟨d', e'⟩) hfk
      have q2 := rtput_c (syncT ⟨d', e'⟩) 0 (padS [0]) hf2.g
      have hf3 := putU_few hf2 (by omega) (i := 0) (b := padS [0])
      have q3 := rtsync_c (putU (syncT ⟨d', e'⟩) 0 (padS [0])) hf3.g
      have hfl : flagT (syncT ⟨d', e'⟩) 0 = syncT (putU (syncT ⟨d', e'⟩) 0 (padS [0])) := rfl
      rw [hfl]
      generalize syncT (putU (syncT ⟨d', e'⟩) 0 (padS [0])) = u3 at *
      generalize putU (syncT ⟨d', e'⟩) 0 (padS [0]) = u2 at *
      generalize syncT ⟨d', e'⟩ = u1 at *
      clear hfk hf2 hf3
      obtain ⟨⟨_, _, _, _⟩, _⟩ := u1
      obtain ⟨⟨_, _, _, _⟩, _⟩ := u2
      obtain ⟨⟨_, _, _, _⟩, _⟩ := u3
      obtain ⟨_, _, _, _⟩ := d'
      dsimp only at q1 q2 q3 ⊢
      simp only [tqH] at q1 q2 q3 ⊢
      have h0c : UInt8.ofNat 0 = 0 := rfl
      by_cases hlt : (k : Int) < (numAt L 0 : Int)
      · generalize numAt L 0 = C at *
        repeat refine St (And.intro hlt <| And.intro he2 <| And.intro q1 <| And.intro q2 <| And.intro q3 <| And.intro @F55.eq_def <| h0c) ct45 ?_
        exact Fin trivial [] [0]
      · generalize numAt L 0 = C at *
        repeat refine St (And.intro hlt <| And.intro he2 <| And.intro q1 <| And.intro q2 <| And.intro q3 <| And.intro @F55.eq_def <| h0c) ct45 ?_
        exact Fin trivial [] [0]
    by_cases hklt : k < numAt L 0
    rotate_left
    · have hks : s.take k = s := List.take_of_length_le (by omega)
      rw [hks] at hfk he ⊢
      have hlt : ¬ (k : Int) < (numAt L 0 : Int) := by omega
      clear hbk hsk hbf
      generalize backU m 0 s ⟨d, 0⟩ = t at *
      obtain ⟨d', e'⟩ := t
      dsimp only at hfk he ⊢
      have q1 := rtsync_c ⟨d', e'⟩ hfk.g
      have hf2 := syncT_few (t := ⟨d', e'⟩) hfk
      have q2 := rtput_c (syncT ⟨d', e'⟩) 0 (padS [0]) hf2.g
      have hf3 := putU_few hf2 (by omega) (i := 0) (b := padS [0])
      have q3 := rtsync_c (putU (syncT ⟨d', e'⟩) 0 (padS [0])) hf3.g
      have hfl : flagT (syncT ⟨d', e'⟩) 0 = syncT (putU (syncT ⟨d', e'⟩) 0 (padS [0])) := rfl
      rw [hfl]
      generalize syncT (putU (syncT ⟨d', e'⟩) 0 (padS [0])) = u3 at *
      generalize putU (syncT ⟨d', e'⟩) 0 (padS [0]) = u2 at *
      generalize syncT ⟨d', e'⟩ = u1 at *
      clear hfk hf2 hf3
      obtain ⟨⟨_, _, _, _⟩, _⟩ := u1
      obtain ⟨⟨_, _, _, _⟩, _⟩ := u2
      obtain ⟨⟨_, _, _, _⟩, _⟩ := u3
      obtain ⟨_, _, _, _⟩ := d'
      dsimp only at q1 q2 q3 ⊢
      simp only [tqH] at q1 q2 q3 ⊢
      have h0c : UInt8.ofNat 0 = 0 := rfl
      generalize numAt L 0 = C at *
      repeat refine St (And.intro hlt <| And.intro q1 <| And.intro q2 <| And.intro q3 <| And.intro @F55.eq_def <| h0c) ct45 ?_
      exact Fin trivial [] [0]
    have hlt : (k : Int) < (numAt L 0 : Int) := by omega
    obtain ⟨hx1, hx2⟩ := hsi k hklt
    have hst := hsk _ hx2 he
    have hst2 := hst
    have hk4 := hnum (4 * (k + 1)) (by omega)
    obtain ⟨w1, w2, w3⟩ := hwk k (by omega)
    clear hbk hsk hbf
    generalize hU : backU m 0 (s.take (k + 1)) ⟨d, 0⟩ = u at *
    generalize backU m 0 (s.take k) ⟨d, 0⟩ = t at *
    have hrd1 := rreads_c (n := 1) hfk.g (i := ((1 + lstN m + m + k : Nat) : Int)) (by omega) (by omega) (by omega)
    rw [show ((1 : Nat) : Int) = 1 from rfl] at hrd1
    have hpu := rtput_c t ((1 + lstN m + numAt L (4 * (k + 1)) : Nat) : Int) (rdB 1 ((1 + lstN m + m + k : Nat) : Int) t.d) hfk.g
    rw [← hst] at hpu
    have v1 : IntKind.i64.wrap (((1 + lstN m : Nat) : Int) + (numAt L (4 * (k + 1)) : Int)) = ((1 + lstN m + numAt L (4 * (k + 1)) : Nat) : Int) := by rw [wrap_i64 (by omega) (by omega)]; omega
    have v2 : IntKind.i64.wrap (((1 + lstN m : Nat) : Int) + (m : Int)) = ((1 + lstN m + m : Nat) : Int) := by rw [wrap_i64 (by omega) (by omega)]; omega
    have v3 : IntKind.i64.wrap (((1 + lstN m + m : Nat) : Int) + (k : Int)) = ((1 + lstN m + m + k : Nat) : Int) := by rw [wrap_i64 (by omega) (by omega)]; omega
    obtain ⟨⟨t1, t2, t3, t4⟩, t5⟩ := t
    dsimp only at he hrd1 hpu ⊢
    subst he
    obtain ⟨⟨u1, u2, u3, u4⟩, u5⟩ := u
    clear hst hst2
    generalize rdB 1 ((1 + lstN m + m + k : Nat) : Int) ⟨t1, t2, t3, t4⟩ = B at *
    generalize 1 + lstN m + m + k = p3 at *
    generalize 1 + lstN m + m = p2 at *
    generalize 1 + lstN m + numAt L (4 * (k + 1)) = p1 at *
    generalize numAt L 0 = C at *
    generalize numAt L (4 * (k + 1)) = X at *
    generalize 1 + lstN m = p0 at *
    simp only [tqH] at hpu ⊢
    have he0 : ((0 : Int) == 0) = true := rfl
    repeat refine St (And.intro hlt <| And.intro w1 <| And.intro w2 <| And.intro w3 <| And.intro hk4 <| And.intro v1 <| And.intro v2 <| And.intro v3 <| And.intro hrd1 <| And.intro hpu <| he0) ct45 ?_
    exact ⟨⟨k + 1, by omega⟩, (Wt (And.intro hU <| @tqH.eq_def) [0, 1, 6, 7, 9, 10] [0]), by simp only; omega⟩

end Go.Fw

end

section
/- The document's store: an opening. -/
namespace Go.Fw
open Go Go.Proofs
set_option linter.unusedVariables false
set_option linter.unusedSimpArgs false

/-- The document's store. -/
def rsT (s : SS) : T := .st [.int .i64 (s.n : Int), .by s.img, .bool s.broken]
def ropB : Option SS × RD × Int → AV
  | (some s, d, e) => .tup [.t (rsT s), .t d.T, .t (.int .i64 e)]
  | (none, d, e) => .tup [.t (.st [.int .i64 0, .by [], .bool false]), .t d.T, .t (.int .i64 e)]
noncomputable def F23 : Fun
  | [x] => match asRD x with
    | some d => @ite _ ((d.good = true ∧ d.p.length ≤ 80000 ∧ d.s.length ≤ 8192)) (Classical.propDecidable _) ((some ([], ropB (openS d)))) none
    | none => none
  | _ => none

theorem ct23 : CT [(44, ⟨[false], treeG F44⟩), (45, ⟨[true, false], G45⟩), (46, ⟨[false, false, false], treeG F46⟩), (47, ⟨[false], treeG F47⟩), (48, ⟨[false, false], treeG F48⟩)] [0, 1, 2, 3, 4, 5, 6, 7, 8, 14, 27, 52] [(3, [⟨1, [], [], []⟩, ⟨0, [1], [], [0]⟩, ⟨2, [2, 15], [0], [0]⟩, ⟨2, [3, 16], [0, 2], [0]⟩, ⟨0, [], [0, 2, 3], []⟩]), (7, [⟨1, [], [], []⟩, ⟨0, [6], [], []⟩, ⟨0, [29], [], []⟩, ⟨0, [30], [], []⟩, ⟨0, [31], [], [3]⟩, ⟨0, [6], [], []⟩, ⟨0, [33], [], []⟩, ⟨0, [34], [], []⟩, ⟨0, [35], [], [3]⟩, ⟨2, [2, 28], [0], [3]⟩, ⟨2, [3, 32], [0, 9], [3]⟩, ⟨0, [36], [0, 9, 10], []⟩]), (8, [⟨0, [6], [], []⟩, ⟨0, [37], [], []⟩, ⟨0, [38], [], []⟩, ⟨1, [39], [], []⟩, ⟨0, [5], [], []⟩, ⟨1, [41], [], []⟩, ⟨0, [42], [5], []⟩, ⟨0, [5], [], []⟩, ⟨1, [40, 43, 44], [3, 5], []⟩, ⟨0, [45], [3, 5, 8], []⟩]), (11, [⟨1, [], [], []⟩, ⟨0, [6], [], []⟩, ⟨0, [54], [], []⟩, ⟨0, [55], [], []⟩, ⟨0, [56], [], [3]⟩, ⟨2, [2, 53], [0], [3]⟩, ⟨2, [3, 57], [0, 5], [3]⟩, ⟨0, [], [0, 5, 6], []⟩]), (12, [⟨0, [5], [], []⟩, ⟨0, [7], [], []⟩, ⟨0, [8], [], []⟩, ⟨0, [60], [], []⟩, ⟨1, [59, 61], [], []⟩, ⟨1, [58, 62], [4], []⟩, ⟨0, [6], [], []⟩, ⟨0, [64], [], []⟩, ⟨0, [65], [], []⟩, ⟨0, [66], [], [3]⟩, ⟨2, [2, 63], [4, 5], [3]⟩, ⟨2, [3, 67], [4, 5, 10], [3]⟩, ⟨0, [], [4, 5, 10, 11], []⟩])] := ⟨(.cons c44.g (.cons g45 (.cons c46.g (.cons c47.g (.cons c48.g (.nil _))))))⟩

theorem rback_c (t : TP) (n : Nat) (h1 : t.d.good = true) (h2 : t.d.p.length ≤ 80000) (h3 : 0 < n) (h4 : n ≤ 10000) (h5 : 1 + lstN n + 2 * n ≤ t.d.s.length) : G45 [.bx (.t (.st [.st [.sq 1 ((t.d.s).map T.str), .sq 2 ((t.d.p).map rp1), .int .i64 (t.d.l), .bool (t.d.off)], .int .i64 (t.e)]))] [.ptr 0 0 [], .t (.int .i64 (n : Int))] = some (tqH (backD n t.d), .tup []) := by
  show G45 (tqH t) _ = _
  simp only [G45, inv_of tqH_inj]
  rw [Int.toNat_natCast]
  exact if_pos ⟨⟨h1, h2⟩, ⟨by omega, by omega⟩, h5⟩

set_option maxRecDepth 8000 in
set_option maxHeartbeats 4000000 in
theorem c23 : ACon Try.prog 23 F23 := by
  refine aconc E_ok (rs := [.cell 2 56, .cell 3 49, .tmp 4 28]) Try.func23 rfl Try.ntmps23 (by kernel_rfl) rfl (by decide) F23 (np := 1) ?_ ?_
  · intro ts h; unfold F23; split <;> first | rfl | (simp at h; done)
  intro ts H r hF hwf
  unfold F23 at hF
  split at hF <;> try (cases hF; done)
  split at hF
  case h_2 => cases hF
  rename_i d hd
  obtain ⟨rfl, hok⟩ := asRD_inv hd
  split at hF
  case isFalse => cases hF
  rename_i hc
  cases hF
  obtain ⟨hg, hp, hs⟩ := hc
  have hsl := rslots_c (w := d.s.length) (by omega)
  have hml : (d.s.map T.str).length = d.s.length := List.length_map ..
  have hfew : d.few d.s.length 80000 := ⟨hg, rfl, hp⟩
  by_cases hn0 : slots d.s.length = 0
  · have ho : openS d = (none, d, 1) := by unfold openS; dsimp only; rw [if_pos hn0]
    rw [ho]
    rw [hn0] at hsl
    dsimp only [ropB]
    obtain ⟨s, p, l, o⟩ := d
    dsimp only at hsl hml
    repeat refine St2 (And.intro @RD.T.eq_def <| And.intro @rdk.eq_def <| And.intro hml <| hsl) ct23 ?_
    exact AWP.ret (Fin (And.intro @RD.T.eq_def <| @rdk.eq_def) [] [])
  rw [open_ref hfew (by omega) hn0]
  have hw := slots_fit (sec := d.s.length) (by omega)
  dsimp only
  generalize slots d.s.length = n at *
  have hb := rback_c ⟨d, 0⟩ n hg hp (by omega) (by omega) hw
  have hon := backD_on (d := d) (n := n) (by omega)
  have hbf := backD_few (n := n) hfew (by omega)
  have hll := lstN_le n
  have hli := rlists_c (n := n) (by omega)
  have hn2 : ((n : Int) == 0) = false := by rw [beq_eq_false_iff_ne]; omega
  dsimp only at hb
  simp only [tqH] at hb
  have hpos : 0 < d.s.length := by omega
  have hn8 : n ≤ 5000 ∧ lstN n ≤ 5001 := by omega
  obtain ⟨s, p, l, o⟩ := d
  dsimp only at hml hsl hw hbf hb hpos
  generalize hT : backD n ⟨s, p, l, o⟩ = t at *
  by_cases he : t.e = 0
  rotate_left
  · rw [if_pos he]
    have he2 : (t.e != 0) = true := by simpa using he
    obtain ⟨⟨_, _, _, _⟩, e'⟩ := t
    dsimp only at hb he2 ⊢
    dsimp only [ropB]
    repeat refine St2 (And.intro @RD.T.eq_def <| And.intro @rdk.eq_def <| And.intro hml <| And.intro hsl <| And.intro hn2 <| And.intro hb <| he2) ct23 ?_
    exact AWP.ret (Fin (And.intro @RD.T.eq_def <| @rdk.eq_def) [] [])
  rw [if_neg (by simpa using he)]
  have hw1 : IntKind.i64.wrap (1 + (lstN n : Int)) = ((1 + lstN n : Nat) : Int) := by rw [wrap_i64 (by omega) (by omega)]; omega
  have hrd := rreads_c (n := n) hbf.g (i := ((1 + lstN n : Nat) : Int)) (by omega) (by omega) (by omega)
  have hBl := rdB_len hbf.g (hon he) n (1 + lstN n) (by rw [hbf.w]; omega)
  generalize rdB n ((1 + lstN n : Nat) : Int) t.d = B at *
  have hnu := rnumber_c (b := B) (a := 0) (by omega) (by omega)
  rw [show ((0 : Nat) : Int) = 0 from rfl] at hnu
  have hw2 : IntKind.i64.wrap ((B.length : Int) - 4) = roomN n := by unfold roomN; rw [wrap_i64 (by omega) (by omega)]; omega
  have hrn : roomN n = (n : Int) * 128 - 4 := rfl
  obtain ⟨⟨_, _, _, _⟩, e'⟩ := t
  dsimp only at hb he hrd ⊢
  subst he
  by_cases hr : roomN n < (numAt B 0 : Int)
  · rw [if_pos hr]
    dsimp only [ropB]
    repeat refine St2 (And.intro @RD.T.eq_def <| And.intro @rdk.eq_def <| And.intro hml <| And.intro hsl <| And.intro hn2 <| And.intro hb <| And.intro hli <| And.intro hw1 <| And.intro hrd <| And.intro hnu <| And.intro hw2 <| hr) ct23 ?_
    exact AWP.ret (Fin (And.intro @RD.T.eq_def <| @rdk.eq_def) [] [])
  · rw [if_neg hr]
    have hk1 : 4 ≤ 4 + numAt B 0 := by omega
    have hk2 : 4 + numAt B 0 ≤ B.length := by omega
    have hw3 : IntKind.i64.wrap (4 + (numAt B 0 : Int)) = ((4 + numAt B 0 : Nat) : Int) := by rw [wrap_i64 (by omega) (by omega)]; omega
    have hsub : List.drop 4 (List.take (4 + numAt B 0) B) = (B.drop 4).take (numAt B 0) := by rw [List.drop_take, show 4 + numAt B 0 - 4 = numAt B 0 by omega]
    generalize numAt B 0 = X at *
    generalize roomN n = R at *
    dsimp only [ropB]
    repeat refine St2 (And.intro @RD.T.eq_def <| And.intro @rdk.eq_def <| And.intro hml <| And.intro hsl <| And.intro hn2 <| And.intro hb <| And.intro hli <| And.intro hw1 <| And.intro hrd <| And.intro hnu <| And.intro hw2 <| And.intro hr <| And.intro hk1 <| And.intro hk2 <| And.intro hw3 <| hsub) ct23 ?_
    exact AWP.ret (Fin (And.intro @RD.T.eq_def <| And.intro @rdk.eq_def <| @rsT.eq_def) [] [])

end Go.Fw

end
