/- The abstract machine, and the contracts of the code: part 51. -/
import Derived.Test.YtlhghhkcoaglnaaP50

section
/- A store opened behind any crash: what stands on the disk. Plain laws. -/
namespace Go.Fw
open Go
set_option linter.unusedVariables false
set_option linter.unusedSimpArgs false

/-- A disk behind a crash. -/
def cD (d : RD) (ks : List Int) : RD := ⟨Cr d ks, [], -1, false⟩
theorem cr_well {d : RD} {w m : Nat} (h : d.few w m) (ks : List Int) : Well ⟨cD d ks, 0⟩ w 0 := by
  obtain ⟨hok, _⟩ := good_iff.1 h.g
  obtain ⟨q1, q2, q3, q4, q5⟩ := RD.ok_iff.1 hok
  have hl : (Cr d ks).length = d.s.length := layK_len _ _
  refine ⟨⟨good_iff.2 ⟨RD.ok_iff.2 ⟨rfl, ?_, rfl, ?_, Nat.zero_le _⟩, (fun h => by cases h), by show (-9223372036854775808 : Int) ≤ -1; omega, by show (-1 : Int) ≤ 9223372036854775807; omega⟩, ?_, Nat.le_refl _⟩, rfl, rfl, by show (-1 : Int) < 0; omega⟩
  · refine layK_full _ _ q2 (fun x hx => ?_)
    have hx1 := zip_fst hx
    obtain ⟨k, hk⟩ := List.getElem?_of_mem hx1
    exact ⟨full128P_get q3 hk, by have := fitP_get q1 hk; omega⟩
  · show (Cr d ks).length ≤ 1000000
    omega
  · show (Cr d ks).length = w
    rw [hl, h.w]

/-! ### The lists are read as they were written. -/
theorem fl4_drop : ∀ (k : Nat) (c : List Nat), ((c.map fun i : Nat => le 4 (i : Int)).flatten).drop (4 * k) = ((c.drop k).map fun i : Nat => le 4 (i : Int)).flatten
  | 0, c => by simp
  | k + 1, [] => by simp
  | k + 1, x :: c => by
    have ih := fl4_drop k c
    have hl := le_len 4 (x : Int)
    rw [List.map_cons, List.flatten_cons, List.drop_succ_cons, ← ih, List.drop_append, List.drop_of_length_le (by omega), List.nil_append, hl]
    congr 1
theorem fl4_len (c : List Nat) : ((c.map fun i : Nat => le 4 (i : Int)).flatten).length = 4 * c.length := by
  induction c with
  | nil => rfl
  | cons x c ih => rw [List.map_cons, List.flatten_cons, List.length_append, ih, le_len, List.length_cons]; omega
theorem num_le4 {x : Nat} (h : x < 4294967296) : num (le 4 (x : Int)) = x := by
  have := num_le 4 (x : Int) (by omega) (by simp; omega)
  omega
theorem numAt_list0 {n : Nat} {c : List Nat} (h : c.length < 4294967296) : numAt (listB n c) 0 = c.length := by
  have hl := le_len 4 (c.length : Int)
  unfold numAt listB
  dsimp only
  rw [List.drop_zero, List.append_assoc, List.take_append_of_le_length (by omega), List.take_of_length_le (by omega), num_le4 h]
theorem numAt_listk {n : Nat} {c : List Nat} {k i : Nat} (hk : c[k]? = some i) (h : i < 4294967296) : numAt (listB n c) (4 * (k + 1)) = i := by
  have hl := le_len 4 (c.length : Int)
  have hlt := (List.getElem?_eq_some_iff.1 hk).1
  have hd : c.drop k = i :: c.drop (k + 1) := by
    rw [List.drop_eq_getElem_cons hlt]
    congr 1
    exact (List.getElem?_eq_some_iff.1 hk).2
  unfold numAt listB
  dsimp only
  rw [List.append_assoc, List.drop_append, List.drop_of_length_le (by omega), List.nil_append, hl, show 4 * (k + 1) - 4 = 4 * k by omega,
    List.drop_append_of_le_length (by rw [fl4_len]; omega), fl4_drop, hd, List.map_cons, List.flatten_cons, List.append_assoc, List.take_append_of_le_length (by rw [le_len]; omega), List.take_of_length_le (by rw [le_len]; omega), num_le4 h]
theorem namN_listB {n : Nat} {c : List Nat} (h : ∀ i ∈ c, i < n) (hn : n ≤ 1000000) : ∀ (f k : Nat), k + f = c.length → namN (listB n c) n f k (c.take k) = some c
  | 0, k, hk => by rw [namN, List.take_of_length_le (by omega)]
  | f + 1, k, hk => by
    have hlt : k < c.length := by omega
    have hi : c[k]? = some c[k] := by simp [hlt]
    have hm := h c[k] (List.getElem_mem _)
    have hnum := numAt_listk (n := n) hi (by omega)
    rw [namN, hnum, if_neg (by omega)]
    have := namN_listB h hn f (k + 1) (by omega)
    rw [List.take_add_one, hi] at this
    exact this
theorem named_listB {n : Nat} {c : List Nat} (hl : c.length ≤ n) (h : ∀ i ∈ c, i < n) (hn : n ≤ 1000000) : named (listB n c) n = some c := by
  unfold named
  rw [numAt_list0 (by omega), if_neg (by omega)]
  have := namN_listB h hn c.length 0 (by omega)
  rw [List.take_zero] at this
  exact this

/-! ### What is given back. -/
theorem backN_nw {n w : Nat} {X : List UInt8} (hw : 1 + lstN n + 2 * n ≤ w) : ∀ (l : List Nat) (k m : Nat) (t : TP), Well t w m → k + l.length ≤ n → m + l.length ≤ 99999 → (∀ i ∈ l, i < n) → (∀ j i, l[j]? = some i → (NW t.d).getD (1 + lstN n + n + (k + j)) [] = partB X i) →
    ∀ i, i < n → ((NW t.d).getD (1 + lstN n + i) [] = partB X i ∨ i ∈ l) → (NW (backN n k l t).d).getD (1 + lstN n + i) [] = partB X i
  | [], k, m, t, h, _, _, _, _, i, hi, hs => by
    rcases hs with hs | hs
    · exact hs
    · cases hs
  | x :: l, k, m, t, h, hk, hm, hl, hb, i, hi, hs => by
    rw [List.length_cons] at hk hm
    have hxl := hl x (by simp)
    have hlen := h.f.w
    have hg := getT_on h.o 1 ((1 + lstN n + n + k : Nat) : Int) (by omega) (by omega)
    have hr : (rdB 1 ((1 + lstN n + n + k : Nat) : Int) t.d).length = 128 := by
      have := rdB_len h.f.g h.o 1 (1 + lstN n + n + k) (by omega)
      omega
    have hv : rdB 1 ((1 + lstN n + n + k : Nat) : Int) t.d = partB X x := by
      rw [rdB_one, getD_NW h.o (by omega)]
      exact hb 0 x rfl
    rw [backN, h.e, hg]
    dsimp only
    have ht : (⟨t.d, 0⟩ : TP) = t := by obtain ⟨d, e⟩ := t; have := h.e; dsimp only at this; rw [this]
    rw [ht]
    obtain ⟨h1, h2⟩ := put_well h (by omega) (i := ((1 + lstN n + x : Nat) : Int)) (by omega) (by omega) (b := rdB 1 ((1 + lstN n + n + k : Nat) : Int) t.d) (by omega)
    rw [padS_full hr, hv] at h2
    have hN : 1 + lstN n + x < (NW t.d).length := by rw [NW_len]; omega
    rw [hv] at h1 ⊢
    refine backN_nw hw l (k + 1) (m + 1) _ h1 (by omega) (by omega) (fun j hj => hl j (by simp [hj])) (fun j i' hj => ?_) i hi ?_
    · rw [h2, getD_set_ne (by omega)]
      have := hb (j + 1) i' (by simpa using hj)
      rw [show k + 1 + j = k + (j + 1) by omega]
      exact this
    · by_cases hxi : x = i
      · subst hxi
        left
        rw [h2, Int.toNat_natCast]
        simp [List.getD_eq_getElem?_getD, hN]
      · rcases hs with hs | hs
        · left
          rw [h2, getD_set_ne (by omega)]
          exact hs
        · rcases List.mem_cons.1 hs with hs | hs
          · exact (hxi hs.symm).elim
          · exact .inr hs
/-- Behind a crash the store is opened with these bytes. -/
theorem undo_un {S : List (List UInt8)} {w n : Nat} {X : List UInt8} (h : Well ⟨⟨S, [], -1, false⟩, 0⟩ w 0) (hn : 0 < n) (hn1 : n ≤ 1000000) (hw : 1 + lstN n + 2 * n ≤ w) (hm : n + 1 ≤ 99999) (hu : Un S n X) :
    ∃ d', undoT n ⟨⟨S, [], -1, false⟩, 0⟩ = ⟨d', 0⟩ ∧ Well ⟨d', 0⟩ w (n + 1) ∧ Holds d' n X ∧ d'.p = [] := by
  have hlen : S.length = w := h.f.w
  have hNW : NW ⟨S, [], -1, false⟩ = S := rfl
  rcases hu with ⟨u1, u2⟩ | ⟨u1, c, u2, u3, u4, u5, u6⟩
  · refine ⟨_, undo_zero h (by omega) u1, ⟨⟨h.f.g, h.f.w, Nat.zero_le _⟩, h.e, h.o, h.l⟩, ⟨u1, u2⟩, rfl⟩
  · have e1 : getT 1 0 ⟨S, [], -1, false⟩ 0 = (S.getD 0 [], 0) := by
      rw [getT_on rfl 1 0 (by omega) (by show (0 : Int) + (1 : Nat) ≤ (S.length : Int); omega), rdB_one]
      have := getD_NW (d := ⟨S, [], -1, false⟩) rfl (i := 0) (by show 0 < S.length; omega)
      rw [show ((0 : Nat) : Int) = 0 from rfl] at this
      rw [this]; rfl
    have e2 := getT_on (d := ⟨S, [], -1, false⟩) rfl (lstN n) 1 (by omega) (by show (1 : Int) + (lstN n : Nat) ≤ (S.length : Int); omega)
    have e3 := rdB_all (d := ⟨S, [], -1, false⟩) (n := lstN n) (f := 1) (want := listB n c) rfl (listB_len u2) (by show 1 + lstN n ≤ S.length; omega) (fun i hi => u4 i hi) (lstN n) 0 (by omega)
    rw [Nat.mul_zero, List.drop_zero, Nat.add_zero, show ((1 : Nat) : Int) = 1 from rfl] at e3
    have hnm := named_listB u2 u3 hn1
    have h1 := backN_well hw c 0 0 _ h (by omega) (by omega) u3
    have h1' := backN_nw (X := X) hw c 0 0 _ h (by omega) (by omega) u3 (fun j i hj => by rw [Nat.zero_add]; exact u5 j i hj)
    obtain ⟨h2, h3, _⟩ := sync_well h1
    obtain ⟨h4, h5, h6⟩ := flag_well h2 (by omega) (by omega) 0
    have hT : undoT n ⟨⟨S, [], -1, false⟩, 0⟩ = flagT (syncT (backN n 0 c ⟨⟨S, [], -1, false⟩, 0⟩)) 0 := by
      unfold undoT
      dsimp only
      rw [e1]
      dsimp only
      rw [if_neg (by rintro (h | h); · exact h rfl
                     · exact u1 h), e2]
      dsimp only
      rw [if_neg (by simp), e3, hnm]
    rw [hT]
    have hpos : 0 < (NW (syncT (backN n 0 c ⟨⟨S, [], -1, false⟩, 0⟩)).d).length := by rw [NW_len, h2.f.w]; omega
    have hle : 0 + c.length + 1 ≤ n + 1 := by omega
    generalize hu : flagT (syncT (backN n 0 c ⟨⟨S, [], -1, false⟩, 0⟩)) 0 = u at *
    obtain ⟨d', e'⟩ := u
    have he : e' = 0 := h4.e
    subst he
    refine ⟨d', rfl, ⟨⟨h4.f.g, h4.f.w, Nat.le_trans h4.f.p hle⟩, h4.e, h4.o, h4.l⟩, ⟨?_, fun i hi => ?_⟩, h6⟩
    · rw [h5, set0_0 hpos]; rfl
    · rw [h5, set0_get (by omega), h3]
      refine h1' i hi ?_
      by_cases hic : i ∈ c
      · exact .inr hic
      · exact .inl (u6 i hi hic)
theorem open_of_undo {d d' : RD} {w m m' n : Nat} (h : Well ⟨d, 0⟩ w m) (h' : Well ⟨d', 0⟩ w m') (hn : slots w = n) (hn0 : 0 < n) (hw : 0 < w) (hu : undoT n ⟨d, 0⟩ = ⟨d', 0⟩) (hf : ((NW d').getD 0 []).getD 0 0 = 0) : openS d = openS d' := by
  have e1 : d.s.length = w := h.f.w
  have e2 : d'.s.length = w := h'.f.w
  unfold openS
  rw [e1, e2, hn]
  dsimp only
  simp only [if_neg (show ¬ n = 0 by omega), hu, undo_zero h' hw hf]
/-- A disk behind a crash is opened, and opened once more. -/
theorem open_un {S : List (List UInt8)} {w n : Nat} {b : List UInt8} (h : Well ⟨⟨S, [], -1, false⟩, 0⟩ w 0) (hsl : slots w = n) (hn : 0 < n) (hn1 : n ≤ 90000) (hb : ¬ roomN n < (b.length : Int)) (hu : Un S n (spreadB n b)) :
    ∃ d', openS ⟨S, [], -1, false⟩ = (some ⟨n, b, false⟩, d', 0) ∧ openS d' = (some ⟨n, b, false⟩, d', 0) ∧ Well ⟨d', 0⟩ w (n + 1) ∧ Holds d' n (spreadB n b) ∧ d'.p = [] := by
  have hw := slots_fit (sec := w) (by omega)
  rw [hsl] at hw
  have hbl : b.length + 4 ≤ n * 128 := by unfold roomN at hb; omega
  obtain ⟨s1, s2⟩ := spread_num (n := n) (b := b) (by omega)
  obtain ⟨d', h1, h2, h3, h4⟩ := undo_un h hn (by omega) hw (by omega) hu
  have ho := open_well h2 hsl hn h3 (spreadB_len hbl) (by rw [s1]; exact hb)
  rw [s1, s2] at ho
  exact ⟨d', by rw [open_of_undo h h2 hsl hn (by omega) h1 h3.flag]; exact ho, ho, h2, h3, h4⟩

/-! ### A store in use. -/
/-- What holds between the acts: as long as the power holds, the disk has the image that was told; behind a cut any crash leaves one of two. -/
structure Liv (d : RD) (w n : Nat) (broken : Bool) (last next : List UInt8) : Prop where
  f : d.few w (3 * n + 3)
  l1 : ¬ roomN n < (last.length : Int)
  l2 : ¬ roomN n < (next.length : Int)
  on : d.off = false → d.p = [] ∧ Holds d n (spreadB n last) ∧ broken = false ∧ next = last
  cut : ∀ ks, Un (Cr d ks) n (spreadB n last) ∨ Un (Cr d ks) n (spreadB n next)
theorem NW_p0 {d : RD} (h : d.p = []) : NW d = d.s := by unfold NW; rw [h]; rfl
theorem Holds.un {d : RD} {n : Nat} {X : List UInt8} (h : Holds d n X) (hp : d.p = []) (ks : List Int) : Un (Cr d ks) n X := by
  rw [Cr_nil hp]
  have := NW_p0 hp
  exact .inl ⟨by rw [← this]; exact h.flag, fun i hi => by rw [← this]; exact h.slot i hi⟩
theorem Liv.made {w n : Nat} (h0 : w ≤ 8192) (hw : 1 + lstN n + 2 * n ≤ w) (hn : 0 < n) (img : SS) : Liv (newD w) w n false [] [] := by
  have h := newD_well h0
  have hh := newD_holds (n := n) hw
  have hz : spreadB n [] = List.replicate (n * 128) 0 := by
    unfold spreadB
    show List.replicate 4 (0 : UInt8) ++ [] ++ List.replicate (n * 128 - 4 - 0) 0 = _
    rw [List.append_nil, List.replicate_append_replicate]
    congr 1; omega
  rw [← hz] at hh
  have hr : ¬ roomN n < (([] : List UInt8).length : Int) := by unfold roomN; simp; omega
  exact ⟨⟨h.f.g, h.f.w, Nat.le_trans h.f.p (Nat.zero_le _)⟩, hr, hr, fun _ => ⟨rfl, hh, rfl, rfl⟩, fun ks => .inl (hh.un rfl ks)⟩
theorem oldN_p {n w : Nat} {was : List UInt8} : ∀ (c : List Nat) (k : Nat), (oldW n was k c).length = c.length
  | [], _ => rfl
  | _ :: c, k => by rw [oldW, List.length_cons, oldN_p (w := w) c (k + 1), List.length_cons]
theorem turn_few {d : RD} {w m n : Nat} {was want : List UInt8} (h : d.few w m) (hm : m + 2 * n + lstN n + 2 ≤ 99999) : (turnT n was want ⟨d, 0⟩).d.few w (m + 2 * n + lstN n + 2) := by
  have hcl := chgN_le was want n
  unfold turnT
  dsimp only
  split
  · exact ⟨h.g, h.w, Nat.le_trans h.p (by omega)⟩
  · generalize chgN was want n = c at *
    have a := oldN_few (n := n) (was := was) c 0 m ⟨d, 0⟩ h (by omega)
    have b := lsN_few (b := listB n c) (lstN n) 0 _ _ a (by omega)
    have e := flagT_few (on := 1) (syncT_few b) (by omega)
    have f := newN_few (n := n) (want := want) c _ _ e (by omega)
    have g := flagT_few (on := 0) (syncT_few f) (by omega)
    exact ⟨g.g, g.w, Nat.le_trans g.p (by omega)⟩
theorem spread_inj_len {n : Nat} {b : List UInt8} (h : ¬ roomN n < (b.length : Int)) : b.length + 4 ≤ n * 128 := by unfold roomN at h; omega
/-- A save. -/
theorem Liv.save {d : RD} {w n : Nat} {br : Bool} {last next img b : List UInt8} (h : Liv d w n br last next) (hsl : slots w = n) (hn : 0 < n) (hn1 : n ≤ 10000) :
    ∃ br' img' d' e, saveS ⟨n, img, br⟩ d b = (⟨n, img', br'⟩, d', e) ∧ Liv d' w n br' (if e = 0 then b else last) (if e = 0 then b else if e = 7 ∧ next = last then b else next) := by
  have hw := slots_fit (sec := w) (by omega)
  rw [hsl] at hw
  have hlen := h.f.w
  by_cases hb : roomN n < (b.length : Int)
  · refine ⟨br, img, d, 4, if_pos hb, ?_⟩
    rw [if_neg (by decide), if_neg (by decide), if_neg (by rintro ⟨h, _⟩; revert h; decide)]
    exact h
  cases ho : d.off with
  | true =>
    refine ⟨true, img, d, 7, saveS_down (s := ⟨n, img, br⟩) hb ho hn (by dsimp only; omega), ?_⟩
    rw [if_neg (by decide), if_neg (by decide)]
    by_cases he : next = last
    · rw [if_pos ⟨rfl, he⟩]
      subst he
      exact ⟨h.f, h.l1, hb, (fun h => by rw [ho] at h; cases h), fun ks => .inl ((h.cut ks).elim id id)⟩
    · rw [if_neg (fun h => he h.2)]
      exact ⟨h.f, h.l1, h.l2, (fun h => by rw [ho] at h; cases h), h.cut⟩
  | false =>
    obtain ⟨hp, hh, hbr, hnx⟩ := h.on ho
    subst hbr hnx
    have hf0 : d.few w 0 := ⟨h.f.g, h.f.w, by rw [hp]; exact Nat.le_refl _⟩
    have hN := NW_p0 hp
    rw [saveS_on (s := ⟨n, img, false⟩) hb rfl ho (by dsimp only; omega)]
    dsimp only
    have hwas : rdB n ((1 + lstN n : Nat) : Int) d = spreadB n next := by
      have := rdB_all (f := 1 + lstN n) ho (spreadB_len (spread_inj_len h.l1)) (by omega) hh.slot n 0 (by omega)
      rw [Nat.add_zero, Nat.mul_zero, List.drop_zero] at this
      exact this
    rw [hwas]
    have hln : lstN n ≤ n + 1 := by unfold lstN; omega
    have hfew := turn_few (was := spreadB n next) (want := spreadB n b) (n := n) hf0 (by omega)
    have h2 := turn_two hf0 (by omega) ho hp hn hw (spreadB_len (spread_inj_len h.l1)) (spreadB_len (spread_inj_len hb)) (by rw [← hN]; exact hh.flag) (fun i hi => by rw [← hN]; exact hh.slot i hi)
    generalize turnT n (spreadB n next) (spreadB n b) ⟨d, 0⟩ = t at *
    have hfew' : t.d.few w (3 * n + 3) := ⟨hfew.g, hfew.w, Nat.le_trans hfew.p (by omega)⟩
    rcases h2 with h2 | h2
    · refine ⟨false, b, t.d, 0, if_neg (by rw [h2.e]; simp), ?_⟩
      rw [if_pos rfl, if_pos rfl]
      have hN' := NW_p0 h2.p
      have hh2 : Holds t.d n (spreadB n b) := ⟨by rw [hN']; exact h2.f, fun i hi => by rw [hN']; exact h2.s i hi⟩
      exact ⟨hfew', hb, hb, fun _ => ⟨h2.p, hh2, rfl, rfl⟩, fun ks => .inl (hh2.un h2.p ks)⟩
    · refine ⟨true, img, t.d, 7, by rw [if_pos h2.ne, h2.e], ?_⟩
      rw [if_neg (by decide), if_neg (by decide), if_pos ⟨rfl, rfl⟩]
      exact ⟨hfew', h.l1, hb, (fun h => by rw [h2.o] at h; cases h), h2.c⟩
/-- A crash, and an opening. -/
theorem Liv.crash {d : RD} {w n : Nat} {br : Bool} {last next : List UInt8} (h : Liv d w n br last next) (hsl : slots w = n) (hn : 0 < n) (hn1 : n ≤ 10000) (ks : List Int) :
    ∃ b d', (b = last ∨ b = next) ∧ Well ⟨cD d ks, 0⟩ w 0 ∧ openS (cD d ks) = (some ⟨n, b, false⟩, d', 0) ∧ openS d' = (some ⟨n, b, false⟩, d', 0) ∧ Liv d' w n false b b := by
  have hc := cr_well h.f ks
  have key : ∀ b, ¬ roomN n < (b.length : Int) → Un (Cr d ks) n (spreadB n b) → ∃ d', openS (cD d ks) = (some ⟨n, b, false⟩, d', 0) ∧ openS d' = (some ⟨n, b, false⟩, d', 0) ∧ Liv d' w n false b b := by
    intro b hb hu
    obtain ⟨d', h1, h2, h3, h4, h5⟩ := open_un hc hsl hn (by omega) hb hu
    exact ⟨d', h1, h2, ⟨⟨h3.f.g, h3.f.w, Nat.le_trans h3.f.p (by omega)⟩, hb, hb, fun _ => ⟨h5, h4, rfl, rfl⟩, fun ks => .inl (h4.un h5 ks)⟩⟩
  rcases h.cut ks with hu | hu
  · obtain ⟨d', h1, h2, h3⟩ := key last h.l1 hu
    exact ⟨last, d', .inl rfl, hc, h1, h2, h3⟩
  · obtain ⟨d', h1, h2, h3⟩ := key next h.l2 hu
    exact ⟨next, d', .inr rfl, hc, h1, h2, h3⟩
/-- An opening without a crash. -/
theorem open_on {d : RD} {w n : Nat} {b : List UInt8} (hw0 : d.s.length = w) (ho : d.off = false) (hsl : slots w = n) (hn : 0 < n) (hh : Holds d n (spreadB n b)) (hb : ¬ roomN n < (b.length : Int)) (hn1 : n ≤ 10000) : openS d = (some ⟨n, b, false⟩, d, 0) := by
  have hw := slots_fit (sec := w) (by omega)
  rw [hsl] at hw
  obtain ⟨s1, s2⟩ := spread_num (n := n) (b := b) (by have := spread_inj_len hb; omega)
  have e1 : getT 1 0 d 0 = ((NW d).getD 0 [], 0) := by
    rw [getT_on ho 1 0 (by omega) (by omega), rdB_one]
    have := getD_NW ho (i := 0) (by omega)
    rw [show ((0 : Nat) : Int) = 0 from rfl] at this
    rw [this]
  have hu : undoT n ⟨d, 0⟩ = ⟨d, 0⟩ := by
    unfold undoT
    dsimp only
    rw [e1]
    dsimp only
    rw [if_pos (.inr hh.flag)]
  have hg : getT n ((1 + lstN n : Nat) : Int) d 0 = (spreadB n b, 0) := by
    rw [getT_on ho n _ (by omega) (by omega)]
    have := rdB_all ho (spreadB_len (spread_inj_len hb)) (by omega) hh.slot n 0 (by omega)
    rw [Nat.add_zero, Nat.mul_zero, List.drop_zero] at this
    rw [this]
  unfold openS
  rw [hw0, hsl]
  dsimp only
  rw [if_neg (by omega), hu]
  dsimp only
  rw [hg]
  dsimp only
  rw [if_neg (by simp), s1, if_neg hb, s2]
theorem open_down {d : RD} {w n : Nat} (hw0 : d.s.length = w) (ho : d.off = true) (hsl : slots w = n) (hn : 0 < n) : openS d = (none, d, 7) := by
  have hw := slots_fit (sec := w) (by omega)
  rw [hsl] at hw
  have e1 : getT 1 0 d 0 = ([], 7) := getT_down ho (by omega) (by omega) (by omega)
  have hu : undoT n ⟨d, 0⟩ = ⟨d, 7⟩ := by
    unfold undoT
    dsimp only
    rw [e1]
    dsimp only
    rw [if_pos (.inl (by decide))]
  unfold openS
  rw [hw0, hsl]
  dsimp only
  rw [if_neg (by omega), hu]
  dsimp only
  rw [getT_err n _ d (by decide)]
  dsimp only
  rw [if_pos (by decide)]
theorem Liv.opened {d : RD} {w n : Nat} {br : Bool} {last next : List UInt8} (h : Liv d w n br last next) (hsl : slots w = n) (hn : 0 < n) (hn1 : n ≤ 10000) :
    (openS d = (some ⟨n, last, false⟩, d, 0) ∧ Liv d w n false last last) ∨ openS d = (none, d, 7) := by
  cases ho : d.off with
  | true => exact .inr (open_down h.f.w ho hsl hn)
  | false =>
    obtain ⟨hp, hh, hbr, hnx⟩ := h.on ho
    subst hbr hnx
    exact .inl ⟨open_on h.f.w ho hsl hn hh h.l1 hn1, h⟩
theorem Liv.fuse {d : RD} {w n : Nat} {br : Bool} {last next : List UInt8} (h : Liv d w n br last next) (k : Int) (hk : k ≤ 9223372036854775807) : Liv (fuR d k) w n br last next := by
  obtain ⟨hok, h1, h2, h3⟩ := good_iff.1 h.f.g
  refine ⟨⟨good_iff.2 ⟨hok, fun ho => ?_, ?_, ?_⟩, h.f.w, h.f.p⟩, h.l1, h.l2, (fun ho => by obtain ⟨a, b, c, e⟩ := h.on ho; exact ⟨a, ⟨b.flag, b.slot⟩, c, e⟩), h.cut⟩
  · show (if d.off = true then d.l else if 0 > k then 0 else k) = 0
    rw [if_pos (show d.off = true from ho)]; exact h1 ho
  · show -9223372036854775808 ≤ (if d.off = true then d.l else if 0 > k then 0 else k)
    split
    · exact h2
    · split <;> omega
  · show (if d.off = true then d.l else if 0 > k then 0 else k) ≤ 9223372036854775807
    split
    · exact h3
    · split <;> omega

end Go.Fw

end

section
/- The document's store: sectors put, synced; what an opening gives back. -/
namespace Go.Fw
open Go Go.Proofs
set_option linter.unusedVariables false
set_option linter.unusedSimpArgs false

theorem strs_inj {a b : List (List UInt8)} (h : a.map T.str = b.map T.str) : a = b := by
  have := asStrs_map a
  rw [h, asStrs_map] at this
  exact (Option.some.inj this).symm
theorem rps_inj {a b : List (Int × List UInt8)} (h : a.map rp1 = b.map rp1) : a = b := by
  have := asRps_map a
  rw [h, asRps_map] at this
  exact (Option.some.inj this).symm
/-- A tape of the document's. -/
def tqH (t : TP) : List Blk := [.bx (.t (.st [.st [.sq 1 (t.d.s.map T.str), .sq 2 (t.d.p.map rp1), .int .i64 t.d.l, .bool t.d.off], .int .i64 t.e]))]
theorem tqH_inj (a b : TP) (h : tqH a = tqH b) : a = b := by
  obtain ⟨⟨s, p, l, o⟩, e⟩ := a
  obtain ⟨⟨s', p', l', o'⟩, e'⟩ := b
  unfold tqH at h
  simp only [List.cons.injEq, Blk.bx.injEq, AV.t.injEq, T.st.injEq, T.int.injEq, T.bool.injEq, T.sq.injEq, true_and, and_true] at h
  obtain ⟨⟨h1, h2, h3, h4⟩, h5⟩ := h
  rw [strs_inj h1, rps_inj h2, h3, h4, h5]

theorem rput_c {d : RD} (h : d.ok = true) (i : Int) (b : List UInt8) : F21 [.st [.sq 1 (d.s.map T.str), .sq 2 (d.p.map rp1), .int .i64 d.l, .bool d.off], .int .i64 i, .by b] = some ([], .tup [.t (.st [.sq 1 ((putR d i b).1.s.map T.str), .sq 2 ((putR d i b).1.p.map rp1), .int .i64 (putR d i b).1.l, .bool (putR d i b).1.off]), .t (.int .i64 (putR d i b).2)]) := by
  have h0 := asRD_T h
  simp only [RD.T, rdk] at h0
  simp only [F21, h0]
  unfold putR
  by_cases h1 : i < 0 ∨ (d.s.length : Int) ≤ i ∨ b.length ≠ 128
  · rw [if_pos h1, if_pos h1]; rfl
  · rw [if_neg h1, if_neg h1]
    by_cases h2 : (rsp d.l d.off).2.2 = false
    · rw [if_pos h2, if_pos h2]; rfl
    · rw [if_neg h2, if_neg h2]; rfl
theorem rsync_c {d : RD} (h : d.ok = true) : F70 [.st [.sq 1 (d.s.map T.str), .sq 2 (d.p.map rp1), .int .i64 d.l, .bool d.off]] = some ([], .tup [.t (.st [.sq 1 ((syncR d).1.s.map T.str), .sq 2 ((syncR d).1.p.map rp1), .int .i64 (syncR d).1.l, .bool (syncR d).1.off]), .t (.int .i64 (syncR d).2)]) := by
  have h0 := asRD_T h
  simp only [RD.T, rdk] at h0
  simp only [F70, h0]
  unfold syncR
  by_cases h2 : (rsp d.l d.off).2.2 = false
  · rw [if_pos h2, if_pos h2]; rfl
  · rw [if_neg h2, if_neg h2]; rfl

noncomputable def G53 : GFun
  | HB, [.ptr 0 0 [], .t (.int .i64 i), .t (.by b)] => match inv tqH HB with
    | some t => @ite _ ((t.d.good = true)) (Classical.propDecidable _) ((some (tqH (putU t i b), .tup []))) none
    | none => none
  | _, _ => none

theorem ct53 : CT [(21, ⟨[false, false, false], treeG F21⟩)] [0, 1, 2, 6, 7, 12] [] := ⟨(.cons c21.g (.nil _))⟩

set_option maxHeartbeats 1000000 in
theorem g53 : GCon Try.prog 53 G53 := by
  refine gconc E_ok (rs := []) Try.func53 rfl Try.ntmps53 (by kernel_rfl) rfl (by decide) G53 (np := 3) ?_ ?_
  · intro HB xs h; unfold G53; split <;> first | rfl | (simp at h; done)
  intro HB xs H r hG hwf hex
  unfold G53 at hG
  split at hG <;> try (cases hG; done)
  rename_i HB i b
  split at hG <;> try (cases hG; done)
  rename_i t ht
  split at hG
  case isFalse => cases hG
  rename_i hg
  cases hG
  obtain rfl := inv_inv ht
  clear ht hex hwf
  obtain ⟨d, e⟩ := t
  dsimp only at hg
  simp only [tqH, putU]
  by_cases he : e = 0
  · subst he
    have h1 := rput_c (good_iff.1 hg).1 i b
    simp only [if_true]
    generalize putR d i b = R at *
    obtain ⟨d', e'⟩ := R
    dsimp only at h1 ⊢
    repeat refine St (And.intro (And.intro @gentry.eq_1 <| @gentry.eq_2) <| h1) ct53 ?_
    exact Fin trivial [] [0]
  · have he2 : (e == 0) = false := by simpa using he
    rw [if_neg he]
    repeat refine St (And.intro (And.intro @gentry.eq_1 <| @gentry.eq_2) <| he2) ct53 ?_
    exact Fin trivial [] [0]

theorem rtput_c (t : TP) (i : Int) (b : List UInt8) (hg : t.d.good = true) : G53 [.bx (.t (.st [.st [.sq 1 ((t.d.s).map T.str), .sq 2 ((t.d.p).map rp1), .int .i64 (t.d.l), .bool (t.d.off)], .int .i64 (t.e)]))] [.ptr 0 0 [], .t (.int .i64 i), .t (.by b)] = some (tqH (putU t i b), .tup []) := by
  show G53 (tqH t) _ = _
  simp only [G53, inv_of tqH_inj]
  exact if_pos hg

noncomputable def G54 : GFun
  | HB, [.ptr 0 0 []] => match inv tqH HB with
    | some t => @ite _ ((t.d.good = true)) (Classical.propDecidable _) ((some (tqH (syncT t), .tup []))) none
    | none => none
  | _, _ => none

theorem ct54 : CT [(70, ⟨[false], treeG F70⟩)] [0, 2, 3, 8] [] := ⟨(.cons c70.g (.nil _))⟩

set_option maxHeartbeats 1000000 in
theorem g54 : GCon Try.prog 54 G54 := by
  refine gconc E_ok (rs := []) Try.func54 rfl Try.ntmps54 (by kernel_rfl) rfl (by decide) G54 (np := 1) ?_ ?_
  · intro HB xs h; unfold G54; split <;> first | rfl | (simp at h; done)
  intro HB xs H r hG hwf hex
  unfold G54 at hG
  split at hG <;> try (cases hG; done)
  rename_i HB
  split at hG <;> try (cases hG; done)
  rename_i t ht
  split at hG
  case isFalse => cases hG
  rename_i hg
  cases hG
  obtain rfl := inv_inv ht
  clear ht hex hwf
  obtain ⟨d, e⟩ := t
  dsimp only at hg
  simp only [tqH, syncT]
  by_cases he : e = 0
  · subst he
    have h1 := rsync_c (good_iff.1 hg).1
    simp only [if_true]
    generalize syncR d = R at *
    obtain ⟨d', e'⟩ := R
    dsimp only at h1 ⊢
    repeat refine St (And.intro (And.intro @gentry.eq_1 <| @gentry.eq_2) <| h1) ct54 ?_
    exact Fin trivial [] [0]
  · have he2 : (e == 0) = false := by simpa using he
    rw [if_neg he]
    repeat refine St (And.intro (And.intro @gentry.eq_1 <| @gentry.eq_2) <| he2) ct54 ?_
    exact Fin trivial [] [0]

theorem rtsync_c (t : TP) (hg : t.d.good = true) : G54 [.bx (.t (.st [.st [.sq 1 ((t.d.s).map T.str), .sq 2 ((t.d.p).map rp1), .int .i64 (t.d.l), .bool (t.d.off)], .int .i64 (t.e)]))] [.ptr 0 0 []] = some (tqH (syncT t), .tup []) := by
  show G54 (tqH t) _ = _
  simp only [G54, inv_of tqH_inj]
  exact if_pos hg

end Go.Fw

end
