/- The abstract machine, and the contracts of the code: part 53. -/
import Derived.Test.YtlhghhkcoaglnaaP52

section
/- What an opening tells, and that it stays. Plain laws. -/
namespace Go.Fw
open Go
set_option linter.unusedVariables false
set_option linter.unusedSimpArgs false

theorem undoT_few {t : TP} {n w m : Nat} (h : t.d.few w m) (hn : m + n + 1 ≤ 99999) : (undoT n t).d.few w (m + n + 1) := by
  have hw : t.d.few w (m + n + 1) := ⟨h.g, h.w, Nat.le_trans h.p (by omega)⟩
  unfold undoT
  dsimp only
  split
  · exact hw
  · split
    · exact hw
    · split
      · exact hw
      · rename_i s hs
        have hsl := named_len hs
        have := fun e => flagT_few (syncT_few (backN_few (n := n) s 0 m ⟨t.d, e⟩ h (by omega))) (by omega) (on := 0)
        exact ⟨(this _).g, (this _).w, Nat.le_trans (this _).p (by omega)⟩
theorem open_cases {d : RD} {w m : Nat} (h : d.few w m) (hm : m + w + 1 ≤ 99999) :
    (∃ b d', openS d = (some ⟨slots w, b, false⟩, d', 0) ∧ 0 < slots w ∧ b.length ≤ 128 * slots w ∧ d'.few w (m + w + 1)) ∨ (∃ d' e, openS d = (none, d', e) ∧ e ≠ 0 ∧ d'.few w (m + w + 1)) := by
  unfold openS
  rw [h.w]
  dsimp only
  have hle : slots w ≤ w := by have := (sltN_le w w 0).2; unfold slots; omega
  by_cases hn : slots w = 0
  · rw [if_pos hn]
    exact .inr ⟨_, _, rfl, by decide, ⟨h.g, h.w, Nat.le_trans h.p (by omega)⟩⟩
  · rw [if_neg hn]
    have hf := undoT_few (t := ⟨d, 0⟩) (n := slots w) h (by omega)
    have hf' : (undoT (slots w) ⟨d, 0⟩).d.few w (m + w + 1) := ⟨hf.g, hf.w, Nat.le_trans hf.p (by omega)⟩
    generalize undoT (slots w) ⟨d, 0⟩ = t at *
    have hg := getT_len hf.g (slots w) ((1 + lstN (slots w) : Nat) : Int) t.e
    generalize getT (slots w) ((1 + lstN (slots w) : Nat) : Int) t.d t.e = g at *
    by_cases h1 : g.2 ≠ 0
    · rw [if_pos h1]
      exact .inr ⟨_, _, rfl, h1, hf'⟩
    · rw [if_neg h1]
      split
      · exact .inr ⟨_, _, rfl, by decide, hf'⟩
      · refine .inl ⟨_, _, rfl, by omega, ?_, hf'⟩
        rw [List.length_take, List.length_drop]
        omega
/-- A sector written where the power holds. -/
theorem putR_well {d : RD} {w m : Nat} (h : Well ⟨d, 0⟩ w m) (hm : m + 1 ≤ 99999) {i : Int} (h0 : 0 ≤ i) (h1 : i < w) {b : List UInt8} (hb : b.length = 128) : ∃ d', putR d i b = (d', 0) ∧ Well ⟨d', 0⟩ w (m + 1) := by
  obtain ⟨h2, _⟩ := put_well h hm h0 h1 (b := b) (by omega)
  have he : putT ⟨d, 0⟩ i b = ⟨(putR d i b).1, (putR d i b).2⟩ := by rw [← putU_full _ _ hb]; rfl
  rw [he] at h2
  have h3 : (putR d i b).2 = 0 := h2.e
  generalize putR d i b = R at *
  obtain ⟨d', e'⟩ := R
  dsimp only at h3 h2
  subst h3
  exact ⟨d', rfl, h2⟩

theorem saveS_few {s : SS} {d : RD} {b : List UInt8} {w m : Nat} (h : d.few w m) (hm : m + 2 * s.n + lstN s.n + 2 ≤ 99999) :
    (saveS s d b).2.1.few w (m + 2 * s.n + lstN s.n + 2) ∧ (saveS s d b).1.n = s.n ∧ (∀ q, s.img.length ≤ q → b.length ≤ q → (saveS s d b).1.img.length ≤ q) := by
  have h0 : d.few w (m + 2 * s.n + lstN s.n + 2) := ⟨h.g, h.w, Nat.le_trans h.p (by omega)⟩
  unfold saveS
  split
  · exact ⟨h0, rfl, fun q h1 _ => h1⟩
  · split
    · exact ⟨h0, rfl, fun q h1 _ => h1⟩
    · dsimp only
      have ht : (if (getT s.n ((1 + lstN s.n : Nat) : Int) d 0).2 = 0 then turnT s.n (getT s.n ((1 + lstN s.n : Nat) : Int) d 0).1 (spreadB s.n b) ⟨d, 0⟩ else ⟨d, (getT s.n ((1 + lstN s.n : Nat) : Int) d 0).2⟩ : TP).d.few w (m + 2 * s.n + lstN s.n + 2) := by
        split
        · exact turn_few h hm
        · exact h0
      generalize (if (getT s.n ((1 + lstN s.n : Nat) : Int) d 0).2 = 0 then turnT s.n (getT s.n ((1 + lstN s.n : Nat) : Int) d 0).1 (spreadB s.n b) ⟨d, 0⟩ else ⟨d, (getT s.n ((1 + lstN s.n : Nat) : Int) d 0).2⟩ : TP) = t at *
      split
      · exact ⟨ht, rfl, fun q h1 _ => h1⟩
      · exact ⟨ht, rfl, fun q _ h2 => h2⟩
theorem fuse_few {d : RD} {w m : Nat} (h : d.few w m) (k : Int) (hk : k ≤ 9223372036854775807) : (fuR d k).few w m := by
  obtain ⟨hok, h1, h2, h3⟩ := good_iff.1 h.g
  refine ⟨good_iff.2 ⟨hok, fun ho => ?_, ?_, ?_⟩, h.w, h.p⟩
  · show (if d.off = true then d.l else if 0 > k then 0 else k) = 0
    rw [if_pos (show d.off = true from ho)]; exact h1 ho
  · show -9223372036854775808 ≤ (if d.off = true then d.l else if 0 > k then 0 else k)
    split
    · exact h2
    · split <;> omega
  · show (if d.off = true then d.l else if 0 > k then 0 else k) ≤ 9223372036854775807
    split
    · exact h3
    · split <;> omega

end Go.Fw

end

section
/- The document's disk: a full sector; what is told of opening, in calls. -/
namespace Go.Fw
open Go Go.Proofs
set_option linter.unusedVariables false
set_option linter.unusedSimpArgs false

def F20 : Fun
  | [.by b] => some ([], .t (.by (fullB b)))
  | _ => none

theorem ct20 : CT [] [0, 2, 3, 4, 5, 8, 17] [] := ⟨GClOk.nil _⟩

theorem c20 : ACon Try.prog 20 F20 := by
  refine aconc E_ok (rs := [.tmp 2 27]) Try.func20 rfl Try.ntmps20 (by kernel_rfl) rfl (by decide) F20 (np := 1) ?_ ?_
  · intro ts h; unfold F20; split <;> first | rfl | (simp at h; done)
  intro ts H r hF hwf
  unfold F20 at hF
  split at hF <;> try (cases hF; done)
  rename_i b
  cases hF
  repeat refine St trivial ct20 ?_
  refine AWP.loop (G := { k : Nat // k ≤ 128 }) (fun k => ⟨[(0, .t (.by b)), (3, .own 0), (4, .t (.int .i64 (k.1 : Int)))], [.by ((fullB b).take k.1)]⟩) (fun k => 128 - k.1) ⟨0, by omega⟩ (Wt (@List.take_zero.{0}) [0, 3, 4] [0]) ?_
  rintro ⟨k, hk⟩
  dsimp only
  by_cases hlt : k < 128
  · have hlt2 : (k : Int) < 128 := by omega
    have hfl := fullB_take b k (by omega)
    have hk1 : IntKind.i64.wrap ((k : Int) + 1) = ((k + 1 : Nat) : Int) := by rw [wrap_i64 (by omega) (by omega)]; omega
    have hbl := fullB_len b
    have hln : ((fullB b).take k).length ≤ 128 := by rw [List.length_take]; omega
    by_cases hb : k < b.length
    · have hb2 : (k : Int) < (b.length : Int) := by omega
      rw [if_pos hb] at hfl
      generalize (fullB b).take k = B at *
      have hcv : UInt8.ofNat (b.getD k 0).toNat = b.getD k 0 := by simp
      repeat refine St (And.intro hlt2 <| And.intro hk1 <| And.intro hb <| And.intro hb2 <| hln) ct20 ?_
      exact ⟨⟨k + 1, by omega⟩, (Wt (And.intro hfl <| hcv) [0, 3, 4] [2]), by simp only; omega⟩
    · have hb2 : ¬ (k : Int) < (b.length : Int) := by omega
      rw [if_neg hb] at hfl
      generalize (fullB b).take k = B at *
      repeat refine St (And.intro hlt2 <| And.intro hk1 <| And.intro hb2 <| hln) ct20 ?_
      exact ⟨⟨k + 1, by omega⟩, (Wt hfl [0, 3, 4] [2]), by simp only; omega⟩
  obtain rfl : k = 128 := by omega
  have hfull : (fullB b).take 128 = fullB b := List.take_of_length_le (by rw [fullB_len]; omega)
  rw [hfull]
  have h128 : ¬ ((128 : Nat) : Int) < 128 := by omega
  repeat refine St h128 ct20 ?_
  exact AWP.ret (Fin trivial [0] [])
theorem full_c (b : List UInt8) : F20 [.by b] = some ([], .t (.by (fullB b))) := rfl
theorem rnew_c {w : Nat} (h1 : 1 ≤ w) (h2 : w ≤ 8192) : F19 [.int .i64 (w : Int)] = some ([], .tup [.t (.st [.sq 1 ((newD w).s.map T.str), .sq 2 ((newD w).p.map rp1), .int .i64 (newD w).l, .bool (newD w).off]), .t (.int .i64 0)]) := by
  simp only [F19]
  rw [if_neg (by omega), Int.toNat_natCast]
  rfl
theorem ropen_c {d : RD} (hg : d.good = true) (hp : d.p.length ≤ 80000) (hs : d.s.length ≤ 8192) : F23 [.st [.sq 1 (d.s.map T.str), .sq 2 (d.p.map rp1), .int .i64 d.l, .bool d.off]] = some ([], ropB (openS d)) := by
  have h3 := asRD_T (good_iff.1 hg).1
  simp only [RD.T, rdk] at h3
  simp only [F23, h3]
  exact if_pos ⟨hg, hp, hs⟩
theorem rdump_c {d : RD} (hg : d.good = true) : F25 [.st [.sq 1 (d.s.map T.str), .sq 2 (d.p.map rp1), .int .i64 d.l, .bool d.off]] = some ([], .t (.by (layP d.s d.p).flatten)) := by
  have hok := (good_iff.1 hg).1
  have h3 := asRD_T hok
  simp only [RD.T, rdk] at h3
  simp only [F25, h3]
  rw [nowR_lay hok]

end Go.Fw

end
