/- The abstract machine, and the contracts of the code: part 48. -/
import Derived.Test.YtofhcigjidhnoaaFwMk

section
/- Chapter 7: turning, the numbers of the steps. -/
namespace Go.Fw
open Go Go.Proofs
set_option linter.unusedVariables false
set_option linter.unusedSimpArgs false

theorem u32_of {n : Int} (h : inK .u32 n) : n = ((UInt32.ofNat n.toNat).toNat : Int) := by
  obtain ⟨h1, h2⟩ := h
  have h2' : n ≤ 4294967295 := h2
  have h1' : 0 ≤ n := h1
  rw [UInt32.toNat_ofNat', Nat.mod_eq_of_lt (by omega)]; omega

theorem rot_s : ∀ r : Nat, r < 32 → 1 ≤ r → abits .and .u64 (IntKind.u64.wrap (-(r : Int))) 31 = ((32 - r : Nat) : Int) ∧ IntKind.u64.wrap (32 - ((32 - r : Nat) : Int)) = (r : Int) := by decide +kernel

def F36 : Fun
  | [.int .u32 n, .int .i64 k] => if -31 ≤ k ∧ k ≤ -1 then some ([], .t (u32T (tr (UInt32.ofNat n.toNat) (-k).toNat))) else none
  | _ => none

theorem ct36 : CT [] [0, 1, 4, 5] [] := ⟨GClOk.nil _⟩

theorem c36 : ACon Try.prog 36 F36 := by
  refine aconc E_ok (rs := [.tmp 4 48]) Try.func36 rfl Try.ntmps36 (by kernel_rfl) rfl (by decide) F36 (np := 2) ?_ ?_
  · intro ts h; unfold F36; split <;> first | rfl | (simp at h; done)
  intro ts H r hF hwf
  unfold F36 at hF
  split at hF <;> try (cases hF; done)
  rename_i n k
  split at hF
  case isFalse => cases hF
  rename_i hk
  have hn : inK .u32 n := by have := hwf _ (List.mem_cons_self); simpa only [T.wf] using this
  have hn' := u32_of hn
  generalize UInt32.ofNat n.toNat = x at *
  subst hn'
  obtain ⟨r, hr, hr1⟩ : ∃ r : Nat, k = -(r : Int) ∧ (-k).toNat = r := ⟨(-k).toNat, by omega, rfl⟩
  rw [hr1] at hF
  cases hF
  subst hr
  obtain ⟨h1, h2⟩ := rot_s r (by omega) (by omega)
  have h0 : ¬ ((32 - r : Nat) : Int) < 0 := by omega
  have h3 : ¬ (r : Int) < 0 := by omega
  have h4 := u32_shl x (32 - r) (by omega)
  have h5 := u32_shr x r (by omega)
  repeat refine St (And.intro h1 <| And.intro h2 <| And.intro h0 <| And.intro h3 <| And.intro h4 <| And.intro h5 <| @u32_or) ct36 ?_
  have e : tr x r = x <<< UInt32.ofNat (32 - r) ||| x >>> UInt32.ofNat r := UInt32.or_comm _ _
  exact AWP.ret (Fin (And.intro e <| @u32T.eq_def) [] [])

theorem u32_ofNat (x : UInt32) : UInt32.ofNat x.toNat = x := by simp
theorem rot_c (x : UInt32) (r : Nat) (h : r ≤ 31) (h1 : 1 ≤ r) : F36 [.int .u32 (x.toNat : Int), .int .i64 (-(r : Int))] = some ([], .t (.int .u32 ((tr x r).toNat : Int))) := by
  simp only [F36]
  rw [if_pos ⟨by omega, by omega⟩]
  simp [u32T]
theorem rotc2 (x : UInt32) : F36 [.int .u32 (x.toNat : Int), .int .i64 (-2)] = some ([], .t (.int .u32 ((tr x 2).toNat : Int))) := rot_c x 2 (by omega) (by omega)
theorem rotc6 (x : UInt32) : F36 [.int .u32 (x.toNat : Int), .int .i64 (-6)] = some ([], .t (.int .u32 ((tr x 6).toNat : Int))) := rot_c x 6 (by omega) (by omega)
theorem rotc7 (x : UInt32) : F36 [.int .u32 (x.toNat : Int), .int .i64 (-7)] = some ([], .t (.int .u32 ((tr x 7).toNat : Int))) := rot_c x 7 (by omega) (by omega)
theorem rotc11 (x : UInt32) : F36 [.int .u32 (x.toNat : Int), .int .i64 (-11)] = some ([], .t (.int .u32 ((tr x 11).toNat : Int))) := rot_c x 11 (by omega) (by omega)
theorem rotc13 (x : UInt32) : F36 [.int .u32 (x.toNat : Int), .int .i64 (-13)] = some ([], .t (.int .u32 ((tr x 13).toNat : Int))) := rot_c x 13 (by omega) (by omega)
theorem rotc17 (x : UInt32) : F36 [.int .u32 (x.toNat : Int), .int .i64 (-17)] = some ([], .t (.int .u32 ((tr x 17).toNat : Int))) := rot_c x 17 (by omega) (by omega)
theorem rotc18 (x : UInt32) : F36 [.int .u32 (x.toNat : Int), .int .i64 (-18)] = some ([], .t (.int .u32 ((tr x 18).toNat : Int))) := rot_c x 18 (by omega) (by omega)
theorem rotc19 (x : UInt32) : F36 [.int .u32 (x.toNat : Int), .int .i64 (-19)] = some ([], .t (.int .u32 ((tr x 19).toNat : Int))) := rot_c x 19 (by omega) (by omega)
theorem rotc22 (x : UInt32) : F36 [.int .u32 (x.toNat : Int), .int .i64 (-22)] = some ([], .t (.int .u32 ((tr x 22).toNat : Int))) := rot_c x 22 (by omega) (by omega)
theorem rotc25 (x : UInt32) : F36 [.int .u32 (x.toNat : Int), .int .i64 (-25)] = some ([], .t (.int .u32 ((tr x 25).toNat : Int))) := rot_c x 25 (by omega) (by omega)

theorem kT_eq : List.map u32T kS = [T.int .u32 1116352408, T.int .u32 1899447441, T.int .u32 3049323471, T.int .u32 3921009573, T.int .u32 961987163, T.int .u32 1508970993, T.int .u32 2453635748, T.int .u32 2870763221, T.int .u32 3624381080, T.int .u32 310598401, T.int .u32 607225278, T.int .u32 1426881987, T.int .u32 1925078388, T.int .u32 2162078206, T.int .u32 2614888103, T.int .u32 3248222580, T.int .u32 3835390401, T.int .u32 4022224774, T.int .u32 264347078, T.int .u32 604807628, T.int .u32 770255983, T.int .u32 1249150122, T.int .u32 1555081692, T.int .u32 1996064986, T.int .u32 2554220882, T.int .u32 2821834349, T.int .u32 2952996808, T.int .u32 3210313671, T.int .u32 3336571891, T.int .u32 3584528711, T.int .u32 113926993, T.int .u32 338241895, T.int .u32 666307205, T.int .u32 773529912, T.int .u32 1294757372, T.int .u32 1396182291, T.int .u32 1695183700, T.int .u32 1986661051, T.int .u32 2177026350, T.int .u32 2456956037, T.int .u32 2730485921, T.int .u32 2820302411, T.int .u32 3259730800, T.int .u32 3345764771, T.int .u32 3516065817, T.int .u32 3600352804, T.int .u32 4094571909, T.int .u32 275423344, T.int .u32 430227734, T.int .u32 506948616, T.int .u32 659060556, T.int .u32 883997877, T.int .u32 958139571, T.int .u32 1322822218, T.int .u32 1537002063, T.int .u32 1747873779, T.int .u32 1955562222, T.int .u32 2024104815, T.int .u32 2227730452, T.int .u32 2361852424, T.int .u32 2428436474, T.int .u32 2756734187, T.int .u32 3204031479, T.int .u32 3329325298] := rfl
theorem hT_eq : List.map u32T hS = [T.int .u32 1779033703, T.int .u32 3144134277, T.int .u32 1013904242, T.int .u32 2773480762, T.int .u32 1359893119, T.int .u32 2600822924, T.int .u32 528734635, T.int .u32 1541459225] := rfl

def F35 : Fun
  | [] => some ([], .t (.ar 64 1 (kS.map u32T)))
  | _ => none

theorem ct35 : CT [] [0] [] := ⟨GClOk.nil _⟩

theorem c35 : ACon Try.prog 35 F35 := by
  refine aconc E_ok (rs := [.cell 0 61]) Try.func35 rfl Try.ntmps35 (by kernel_rfl) rfl (by decide) F35 (np := 0) ?_ ?_
  · intro ts h; unfold F35; split <;> first | rfl | (simp at h; done)
  intro ts H r hF hwf
  unfold F35 at hF
  split at hF <;> try (cases hF; done)
  cases hF
  repeat refine St @zar_len ct35 ?_
  exact AWP.ret (Fin @kT_eq [] [])

def F31 : Fun
  | [] => some ([], .t (.ar 8 1 (hS.map u32T)))
  | _ => none

theorem ct31 : CT [] [0] [] := ⟨GClOk.nil _⟩

theorem c31 : ACon Try.prog 31 F31 := by
  refine aconc E_ok (rs := [.cell 0 54]) Try.func31 rfl Try.ntmps31 (by kernel_rfl) rfl (by decide) F31 (np := 0) ?_ ?_
  · intro ts h; unfold F31; split <;> first | rfl | (simp at h; done)
  intro ts H r hF hwf
  unfold F31 at hF
  split at hF <;> try (cases hF; done)
  cases hF
  repeat refine St trivial ct31 ?_
  exact AWP.ret (Fin @hT_eq [] [])

end Go.Fw

end

section
/- Chapter 7: a block's numbers. -/
namespace Go.Fw
open Go Go.Proofs
set_option linter.unusedVariables false
set_option linter.unusedSimpArgs false

def F34 : Fun
  | [.by b] => if b.length = 64 then some ([], .t (.ar 64 1 ((sch b 64).map u32T))) else none
  | _ => none

theorem ct34 : CT [(36, ⟨[false, false], treeG F36⟩)] [0, 2, 3, 4, 6, 7, 8, 9, 10, 11, 12, 13, 21, 22, 23, 24, 39] [(14, [⟨0, [7], [], []⟩, ⟨0, [42], [], []⟩, ⟨1, [3, 43], [], []⟩, ⟨1, [44], [2], []⟩, ⟨0, [7], [], []⟩, ⟨0, [46], [], []⟩, ⟨1, [3, 47], [], []⟩, ⟨1, [48], [6], []⟩, ⟨0, [45], [2, 3], []⟩, ⟨0, [49], [2, 3, 6, 7], []⟩]), (17, [⟨0, [7], [], []⟩, ⟨0, [7], [], []⟩, ⟨0, [67], [], []⟩, ⟨1, [3, 68], [], []⟩, ⟨1, [69], [3], []⟩, ⟨0, [10], [], []⟩, ⟨0, [70, 71], [3, 4], []⟩, ⟨0, [7], [], []⟩, ⟨0, [73], [], []⟩, ⟨1, [3, 74], [], []⟩, ⟨1, [75], [9], []⟩, ⟨0, [72, 76], [3, 4, 9, 10], []⟩, ⟨0, [11], [], []⟩, ⟨0, [77, 78], [3, 4, 9, 10], []⟩, ⟨1, [3, 66], [3, 4, 9, 10], []⟩, ⟨2, [79, 80], [3, 4, 9, 10, 14], []⟩])] := ⟨(.cons c36.g (.nil _))⟩

/-- The array so far: so many numbers, then noughts. -/
def arS (l : List UInt32) (n : Nat) : List T := (l ++ List.replicate (n - l.length) 0).map u32T
theorem arS_len {l : List UInt32} {n : Nat} (h : l.length ≤ n) : (arS l n).length = n := by simp [arS]; omega
theorem arS_get {l : List UInt32} {n i : Nat} (h : i < l.length) : (arS l n).getD i default = .int .u32 ((l.getD i 0).toNat : Int) := by
  simp [arS, List.getD_eq_getElem?_getD, List.getElem?_append_left, h, u32T]
theorem rep_pad {l : List UInt32} {n : Nat} (h : l.length < n) : l ++ List.replicate (n - l.length) 0 = l ++ 0 :: List.replicate (n - (l.length + 1)) 0 := by
  have e : n - l.length = (n - (l.length + 1)) + 1 := by omega
  rw [e, List.replicate_succ]
theorem arS_set {l : List UInt32} {n : Nat} {x y : UInt32} (h : l.length < n) : (arS (l ++ [y]) n).set l.length (.int .u32 (x.toNat : Int)) = arS (l ++ [x]) n := by
  have e : T.int .u32 (x.toNat : Int) = u32T x := rfl
  rw [e]
  simp only [arS, ← List.map_set]
  simp
theorem arS_zero {l : List UInt32} {n : Nat} (h : l.length < n) : arS l n = arS (l ++ [0]) n := by
  unfold arS
  rw [rep_pad h]
  simp
theorem arS_nil (n : Nat) : arS [] n = zar n (.int .u32 0) := by simp [arS, zar, u32T]
theorem arS_full {l : List UInt32} {n : Nat} (h : l.length = n) : arS l n = l.map u32T := by simp [arS, h]

theorem arS_size (l : List UInt32) (n i : Nat) (h : i < (arS l n).length) : ((arS l n).getD i default).size = 1 := by
  unfold arS at *
  rw [List.length_map] at h
  rw [u32T_getD h]; rfl

theorem sl8 (x : UInt32) : IntKind.u32.wrap ((x.toNat : Int) * 2 ^ (min 8 IntKind.u32.bits)) = ((x <<< 8).toNat : Int) := u32_shl x 8 (by omega)
theorem sr3 (x : UInt32) : Int.fdiv (x.toNat : Int) (2 ^ (min 3 IntKind.u32.bits)) = ((x >>> 3).toNat : Int) := u32_shr x 3 (by omega)
theorem sr10 (x : UInt32) : Int.fdiv (x.toNat : Int) (2 ^ (min 10 IntKind.u32.bits)) = ((x >>> 10).toNat : Int) := u32_shr x 10 (by omega)

def wacc (b : List UInt8) (t : Nat) : Nat → UInt32
  | 0 => 0
  | j + 1 => wacc b t j <<< 8 ||| (b.getD (4 * t + j) 0).toUInt32
theorem wacc4 (b : List UInt8) (t : Nat) : wacc b t 4 = word b t := by
  simp only [wacc, word, Nat.add_zero]
  congr 6
  simp

theorem fsg0 (x : UInt32) : tr x 7 ^^^ tr x 18 ^^^ x >>> 3 = sg0 x := rfl
theorem fsg1 (x : UInt32) : tr x 17 ^^^ tr x 19 ^^^ x >>> 10 = sg1 x := rfl

set_option maxHeartbeats 1000000 in
theorem c34 : ACon Try.prog 34 F34 := by
  refine aconc E_ok (rs := [.cell 2 61]) Try.func34 rfl Try.ntmps34 (by kernel_rfl) rfl (by decide) F34 (np := 1) ?_ ?_
  · intro ts h; unfold F34; split <;> first | rfl | (simp at h; done)
  intro ts H r hF hwf
  unfold F34 at hF
  split at hF <;> try (cases hF; done)
  rename_i b
  split at hF
  case isFalse => cases hF
  rename_i hb
  cases hF
  repeat refine St trivial ct34 ?_
  refine AWP.loop (G := { t : Nat // t ≤ 16 }) (fun t => ⟨[(0, .t (.by b)), (2, .ptr 0 0 []), (3, .ptr 1 0 []), (12, .t (.int .i64 (t.1 : Int)))], [.bx (.t (.ar 64 1 (zar 64 (.int .u32 0)))), .bx (.t (.ar 64 1 (arS (sch b t.1) 64)))]⟩) (fun t => 16 - t.1) ⟨0, by omega⟩ ((Wt (And.intro (And.intro @sch.eq_1 <| @sch.eq_2) <| @arS_nil) [0, 2, 3, 12] [0, 1])) ?_
  · intro ⟨t, ht⟩
    dsimp only
    have hsl := sch_len b t
    by_cases hlt : (t : Int) < 16
    case neg =>
      obtain rfl : t = 16 := by omega
      repeat refine St hlt ct34 ?_
      refine AWP.loop (G := { t : Nat // 16 ≤ t ∧ t ≤ 64 }) (fun t => ⟨[(0, .t (.by b)), (2, .ptr 0 0 []), (3, .ptr 1 0 []), (7, .t (.int .i64 (t.1 : Int)))], [.bx (.t (.ar 64 1 (zar 64 (.int .u32 0)))), .bx (.t (.ar 64 1 (arS (sch b t.1) 64)))]⟩) (fun t => 64 - t.1) ⟨16, by omega⟩ ((Wt trivial [0, 2, 3, 7] [0, 1])) ?_
      intro ⟨t, ht1, ht2⟩
      dsimp only
      have hsl := sch_len b t
      by_cases hlt2 : (t : Int) < 64
      case neg =>
        obtain rfl : t = 64 := by omega
        have hf := arS_full hsl
        have harl : (List.map u32T (sch b 64)).length = 64 := by simp [hsl]
        repeat refine St (And.intro hlt2 <| And.intro hf <| And.intro harl <| And.intro @T.size.eq_def <| @zar_len) ct34 ?_
        exact AWP.ret (Fin trivial [] [])
      have ht64 : t < 64 := by omega
      have hm15 : IntKind.i64.wrap ((t : Int) - 15) = ((t - 15 : Nat) : Int) := by rw [wrap_i64 (by omega) (by omega)]; omega
      have hm2 : IntKind.i64.wrap ((t : Int) - 2) = ((t - 2 : Nat) : Int) := by rw [wrap_i64 (by omega) (by omega)]; omega
      have hm16 : IntKind.i64.wrap ((t : Int) - 16) = ((t - 16 : Nat) : Int) := by rw [wrap_i64 (by omega) (by omega)]; omega
      have hm7 : IntKind.i64.wrap ((t : Int) - 7) = ((t - 7 : Nat) : Int) := by rw [wrap_i64 (by omega) (by omega)]; omega
      have hk1 : IntKind.i64.wrap ((t : Int) + 1) = ((t + 1 : Nat) : Int) := by rw [wrap_i64 (by omega) (by omega)]; omega
      have harl : (arS (sch b t) 64).length = 64 := arS_len (by omega)
      have g15 := arS_get (n := 64) (l := sch b t) (i := t - 15) (by omega)
      have g2 := arS_get (n := 64) (l := sch b t) (i := t - 2) (by omega)
      have g16 := arS_get (n := 64) (l := sch b t) (i := t - 16) (by omega)
      have g7 := arS_get (n := 64) (l := sch b t) (i := t - 7) (by omega)
      have l15 : t - 15 < 64 := by omega
      have l2 : t - 2 < 64 := by omega
      have l16 : t - 16 < 64 := by omega
      have l7 : t - 7 < 64 := by omega
      have i15 : ((t - 15 : Nat) : Int) < 64 := by omega
      have i2 : ((t - 2 : Nat) : Int) < 64 := by omega
      have i16 : ((t - 16 : Nat) : Int) < 64 := by omega
      have i7 : ((t - 7 : Nat) : Int) < 64 := by omega
      have hars : ∀ y : UInt32, (arS (sch b t) 64).set t (.int .u32 (y.toNat : Int)) = arS (sch b t ++ [y]) 64 := fun y => by
        have := arS_set (l := sch b t) (n := 64) (x := y) (y := 0) (by omega)
        rw [← arS_zero (by omega), hsl] at this
        exact this
      have gsz := arS_size (sch b t) 64 t (by omega)
      have hnx : sch b t ++ [(sch b t).getD (t - 16) 0 + sg0 ((sch b t).getD (t - 15) 0) + (sch b t).getD (t - 7) 0 + sg1 ((sch b t).getD (t - 2) 0)] = sch b (t + 1) := by simp only [sch, next]; rw [if_neg (by omega)]
      repeat refine St (And.intro hlt2 <| And.intro hm15 <| And.intro hm2 <| And.intro hm16 <| And.intro hm7 <| And.intro harl <| And.intro g15 <| And.intro g2 <| And.intro g16 <| And.intro g7 <| And.intro l15 <| And.intro l2 <| And.intro l16 <| And.intro l7 <| And.intro i15 <| And.intro i2 <| And.intro i16 <| And.intro i7 <| And.intro ht64 <| And.intro @rotc7 <| And.intro @rotc18 <| And.intro @rotc17 <| And.intro @rotc19 <| And.intro @u32_xor <| And.intro @u32_add <| And.intro @sr3 <| And.intro @sr10 <| And.intro @fsg0 <| And.intro @fsg1 <| And.intro hars <| And.intro hk1 <| gsz) ct34 ?_
      exact ⟨⟨t + 1, by omega, by omega⟩, (Wt hnx [0, 2, 3, 7] [0, 1]), by simp only; omega⟩
    have hm1 : IntKind.i64.wrap (4 * (t : Int)) = ((4 * t : Nat) : Int) := by rw [wrap_i64 (by omega) (by omega)]; omega
    have hm2 : IntKind.i64.wrap (((4 * t : Nat) : Int) + 4) = ((4 * t + 4 : Nat) : Int) := by rw [wrap_i64 (by omega) (by omega)]; omega
    repeat refine St (And.intro hlt <| And.intro hm1 <| And.intro hm2 <| hb) ct34 ?_
    have hdl : (List.drop (4 * t) (List.take (4 * t + 4) b)).length = 4 := by simp; omega
    generalize hR : List.drop (4 * t) (List.take (4 * t + 4) b) = R at hdl
    have ht64 : t < 64 := by omega
    have harl : ∀ z, (arS (sch b t ++ [z]) 64).length = 64 := fun z => arS_len (by simp [hsl]; omega)
    have harg : ∀ z, (arS (sch b t ++ [z]) 64).getD t default = .int .u32 (z.toNat : Int) := fun z => by
      rw [arS_get (by simp [hsl])]
      simp [List.getD_eq_getElem?_getD, hsl]
    have hars : ∀ z y : UInt32, (arS (sch b t ++ [z]) 64).set t (.int .u32 (y.toNat : Int)) = arS (sch b t ++ [y]) 64 := fun z y => by
      have := arS_set (l := sch b t) (n := 64) (x := y) (y := z) (by omega)
      rwa [hsl] at this
    have hsn : sch b t ++ [word b t] = sch b (t + 1) := by simp only [sch, next]; rw [if_pos (by omega)]
    have hk2 : IntKind.i64.wrap ((t : Int) + 1) = ((t + 1 : Nat) : Int) := by rw [wrap_i64 (by omega) (by omega)]; omega
    refine AWP.loop (G := { j : Nat // j ≤ 4 }) (fun j => ⟨[(0, .t (.by b)), (2, .ptr 0 0 []), (3, .ptr 1 0 []), (4, .t (.int .i64 (t : Int))), (12, .t (.int .i64 (t : Int))), (21, .t (.by R)), (22, .t (.int .i64 4)), (23, .t (.int .i64 (j.1 : Int)))], [.bx (.t (.ar 64 1 (zar 64 (.int .u32 0)))), .bx (.t (.ar 64 1 (arS (sch b t ++ [wacc b t j.1]) 64)))]⟩) (fun j => 4 - j.1) ⟨0, by omega⟩ (Wt (And.intro (arS_zero (show (sch b t).length < 64 by omega)) <| And.intro (And.intro @wacc.eq_1 <| @wacc.eq_2) <| hdl) [0, 2, 3, 4, 12, 21, 22, 23] [0, 1]) ?_
    intro ⟨j, hj⟩
    dsimp only
    by_cases hlt4 : (j : Int) < 4
    · have hRg : R.getD j 0 = b.getD (4 * t + j) 0 := by
        rw [← hR]; simp only [List.getD_eq_getElem?_getD, List.getElem?_drop, List.getElem?_take]
        rw [if_pos (by omega)]
      have hj4 : j < 4 := by omega
      have hk1 : IntKind.i64.wrap ((j : Int) + 1) = ((j + 1 : Nat) : Int) := by rw [wrap_i64 (by omega) (by omega)]; omega
      repeat refine St (And.intro hlt4 <| And.intro hRg <| And.intro hj4 <| And.intro hdl <| And.intro harl <| And.intro harg <| And.intro hars <| And.intro ht64 <| And.intro @sl8 <| And.intro @u32_of_u8 <| And.intro @u32_or <| And.intro hk1 <| @u8.eq_def) ct34 ?_
      exact ⟨⟨j + 1, by omega⟩, (Wt (And.intro @wacc.eq_1 <| @wacc.eq_2) [0, 2, 3, 4, 12, 21, 22, 23] [0, 1]), by simp only; omega⟩
    · obtain rfl : j = 4 := by omega
      repeat refine St (And.intro hlt4 <| hk2) ct34 ?_
      exact ⟨⟨t + 1, by omega⟩, (Wt (And.intro @wacc4 <| hsn) [0, 2, 3, 12] [0, 1]), by simp only; omega⟩

end Go.Fw

end

section
/- Chapter 7: a block taken. -/
namespace Go.Fw
open Go Go.Proofs
set_option linter.unusedVariables false
set_option linter.unusedSimpArgs false

theorem u32T_inj {a b : UInt32} (h : u32T a = u32T b) : a = b := by
  simp only [u32T, T.int.injEq, true_and] at h
  exact UInt32.toNat_inj.1 (by omega)
noncomputable def asS8 (xs : List T) : Option S8 := inv (fun s : S8 => s.l.map u32T) xs
theorem asS8_map (s : S8) : asS8 (s.l.map u32T) = some s := inv_of (f := fun s : S8 => s.l.map u32T) (fun a b h => by
  simp only [S8.l, List.map_cons, List.map_nil, List.cons.injEq, and_true] at h
  obtain ⟨h1, h2, h3, h4, h5, h6, h7, h8⟩ := h
  cases a; cases b
  simp only [S8.mk.injEq]
  exact ⟨u32T_inj h1, u32T_inj h2, u32T_inj h3, u32T_inj h4, u32T_inj h5, u32T_inj h6, u32T_inj h7, u32T_inj h8⟩) s
theorem asS8_inv {xs : List T} {s : S8} (h : asS8 xs = some s) : xs = s.l.map u32T := inv_inv (f := fun s : S8 => s.l.map u32T) h

/-- A variable of eight numbers, or a hash that begins with them. -/
noncomputable def G32 : GFun
  | [.bx (.t (.ar 8 1 xs))], [.ptr 0 0 [], .t (.by b)] => match asS8 xs with
    | some s => if b.length = 64 then some ([.bx (.t (.ar 8 1 ((blkS s b).l.map u32T)))], .tup []) else none
    | none => none
  | [.bx (.t (.st [.ar 8 1 xs, .by r, .int .u64 n]))], [.ptr 0 0 [0], .t (.by b)] => match asS8 xs with
    | some s => if b.length = 64 then some ([.bx (.t (.st [.ar 8 1 ((blkS s b).l.map u32T), .by r, .int .u64 n]))], .tup []) else none
    | none => none
  | _, _ => none

theorem ct32 : CT [(34, ⟨[false], treeG F34⟩), (35, ⟨[], treeG F35⟩), (36, ⟨[false, false], treeG F36⟩)] [0, 1, 4, 5, 6, 7, 8, 9, 10, 11, 12, 19, 20, 101, 102] [(6, (List.cons (⟨1, [6], [], []⟩ : Info) <| List.cons (⟨1, [24], [0], []⟩ : Info) <| List.cons (⟨0, [8], [], []⟩ : Info) <| List.cons (⟨1, [26], [], []⟩ : Info) <| List.cons (⟨0, [8], [], []⟩ : Info) <| List.cons (⟨1, [28], [3], []⟩ : Info) <| List.cons (⟨0, [27, 29], [3, 5], []⟩ : Info) <| List.cons (⟨0, [8], [], []⟩ : Info) <| List.cons (⟨1, [31], [3, 5], []⟩ : Info) <| List.cons (⟨0, [30, 32], [3, 5, 8], []⟩ : Info) <| List.cons (⟨0, [25, 33], [0, 1, 3, 5, 8], []⟩ : Info) <| List.cons (⟨0, [8], [], []⟩ : Info) <| List.cons (⟨1, [6], [], []⟩ : Info) <| List.cons (⟨1, [36], [12], []⟩ : Info) <| List.cons (⟨0, [35, 37], [12, 13], []⟩ : Info) <| List.cons (⟨0, [8], [], []⟩ : Info) <| List.cons (⟨0, [39], [], []⟩ : Info) <| List.cons (⟨1, [6], [], []⟩ : Info) <| List.cons (⟨1, [41], [17], []⟩ : Info) <| List.cons (⟨0, [40, 42], [17, 18], []⟩ : Info) <| List.cons (⟨0, [38, 43], [12, 13, 17, 18], []⟩ : Info) <| List.cons (⟨0, [34, 44], [0, 1, 3, 5, 8, 12, 13, 17, 18], []⟩ : Info) <| List.cons (⟨0, [7], [], []⟩ : Info) <| List.cons (⟨1, [5, 46], [], []⟩ : Info) <| List.cons (⟨1, [47], [23], []⟩ : Info) <| List.cons (⟨0, [45, 48], [0, 1, 3, 5, 8, 12, 13, 17, 18, 23, 24], []⟩ : Info) <| List.cons (⟨0, [7], [], []⟩ : Info) <| List.cons (⟨1, [4, 50], [], []⟩ : Info) <| List.cons (⟨1, [51], [27], []⟩ : Info) <| List.cons (⟨0, [49, 52], [0, 1, 3, 5, 8, 12, 13, 17, 18, 23, 24, 27, 28], []⟩ : Info) <| List.cons (⟨0, [53], [0, 1, 3, 5, 8, 12, 13, 17, 18, 23, 24, 27, 28], []⟩ : Info) <| [])), (8, [⟨0, [10], [], []⟩, ⟨1, [56], [], []⟩, ⟨0, [10], [], []⟩, ⟨1, [58], [1], []⟩, ⟨0, [57, 59], [1, 3], []⟩, ⟨0, [10], [], []⟩, ⟨1, [61], [1, 3], []⟩, ⟨0, [60, 62], [1, 3, 6], []⟩, ⟨0, [10], [], []⟩, ⟨1, [6], [], []⟩, ⟨1, [65], [9], []⟩, ⟨0, [64, 66], [9, 10], []⟩, ⟨0, [10], [], []⟩, ⟨1, [6], [], []⟩, ⟨1, [69], [13], []⟩, ⟨0, [68, 70], [13, 14], []⟩, ⟨0, [67, 71], [9, 10, 13, 14], []⟩, ⟨1, [6], [], []⟩, ⟨1, [73], [17], []⟩, ⟨1, [6], [], []⟩, ⟨1, [75], [19], []⟩, ⟨0, [74, 76], [17, 18, 19, 20], []⟩, ⟨0, [72, 77], [9, 10, 13, 14, 17, 18, 19, 20], []⟩, ⟨0, [63, 78], [1, 3, 6, 9, 10, 13, 14, 17, 18, 19, 20], []⟩, ⟨0, [79], [1, 3, 6, 9, 10, 13, 14, 17, 18, 19, 20], []⟩]), (14, [⟨0, [0], [], []⟩, ⟨0, [12], [], []⟩, ⟨0, [104], [], []⟩, ⟨1, [105, 106], [], []⟩, ⟨1, [107], [3], []⟩, ⟨0, [12], [], []⟩, ⟨1, [6, 109], [], []⟩, ⟨1, [110], [6], []⟩, ⟨0, [108, 111], [3, 4, 6, 7], []⟩, ⟨0, [104], [], []⟩, ⟨1, [105, 113], [3, 4, 6, 7], []⟩, ⟨2, [112, 114], [3, 4, 6, 7, 10], []⟩])] := ⟨(.cons c34.g (.cons c35.g (.cons c36.g (.nil _))))⟩

def a8 (v : S8) : List T := [.int .u32 (v.a.toNat : Int), .int .u32 (v.b.toNat : Int), .int .u32 (v.c.toNat : Int), .int .u32 (v.d.toNat : Int), .int .u32 (v.e.toNat : Int), .int .u32 (v.f.toNat : Int), .int .u32 (v.g.toNat : Int), .int .u32 (v.h.toNat : Int)]
theorem a8_eq (v : S8) : v.l.map u32T = a8 v := rfl

theorem kS_len : kS.length = 64 := rfl

/-- The first so many numbers added. -/
def mixS (s v : S8) (i : Nat) : List T := ((s.add v).l.take i ++ s.l.drop i).map u32T
theorem mixS_len (s v : S8) : ∀ i, i ≤ 8 → (mixS s v i).length = 8
  | 0, _ => rfl | 1, _ => rfl | 2, _ => rfl | 3, _ => rfl | 4, _ => rfl | 5, _ => rfl | 6, _ => rfl | 7, _ => rfl | 8, _ => rfl
  | i + 9, h => by omega
theorem mixS_get (s v : S8) : ∀ i, i < 8 → (mixS s v i).getD i default = .int .u32 ((s.l.getD i 0).toNat : Int)
  | 0, _ => rfl | 1, _ => rfl | 2, _ => rfl | 3, _ => rfl | 4, _ => rfl | 5, _ => rfl | 6, _ => rfl | 7, _ => rfl
  | i + 8, h => by omega
theorem a8_get (v : S8) : ∀ i, i < 8 → (List.map u32T v.l).getD i default = .int .u32 ((v.l.getD i 0).toNat : Int)
  | 0, _ => rfl | 1, _ => rfl | 2, _ => rfl | 3, _ => rfl | 4, _ => rfl | 5, _ => rfl | 6, _ => rfl | 7, _ => rfl
  | i + 8, h => by omega
theorem mixS_set (s v : S8) : ∀ i, i < 8 → (mixS s v i).set i (.int .u32 ((s.l.getD i 0 + v.l.getD i 0).toNat : Int)) = mixS s v (i + 1)
  | 0, _ => rfl | 1, _ => rfl | 2, _ => rfl | 3, _ => rfl | 4, _ => rfl | 5, _ => rfl | 6, _ => rfl | 7, _ => rfl
  | i + 8, h => by omega
theorem mixS_0 (s v : S8) : mixS s v 0 = s.l.map u32T := rfl
theorem mixS_8 (s v : S8) : mixS s v 8 = (s.add v).l.map u32T := rfl

set_option maxHeartbeats 4000000 in
theorem g32 : GCon Try.prog 32 G32 := by
  refine gconc E_ok (rs := []) Try.func32 rfl Try.ntmps32 (by kernel_rfl) rfl (by decide) G32 (np := 2) ?_ ?_
  · intro HB xs h; unfold G32; split <;> first | rfl | (simp at h; done)
  intro HB xs H r hG hwf hex
  unfold G32 at hG
  split at hG <;> try (cases hG; done)
  · rename_i xs b
    split at hG
    case h_2 => cases hG
    rename_i s hs
    split at hG
    case isFalse => cases hG
    rename_i hb
    cases hG
    obtain rfl := asS8_inv hs
    have hsp : F34 [.by b] = some ([], .t (.ar 64 1 ((sch b 64).map u32T))) := if_pos hb
    repeat refine St (And.intro (And.intro @gentry.eq_1 <| @gentry.eq_2) <| And.intro hsp <| @F35.eq_def) ct32 ?_
    refine AWP.loop (G := { t : Nat // t ≤ 64 }) (fun t => ⟨[(0, .ptr 0 0 []), (4, .ptr 1 0 []), (5, .ptr 2 0 []), (6, .ptr 3 0 []), (19, .t (.int .i64 (t.1 : Int)))], [.bx (.t (.ar 8 1 (s.l.map u32T))), .bx (.t (.ar 64 1 ((sch b 64).map u32T))), .bx (.t (.ar 64 1 (kS.map u32T))), .bx (.t (.ar 8 1 ((rnds b s t.1).l.map u32T)))]⟩) (fun t => 64 - t.1) ⟨0, by omega⟩ ((Wt (And.intro @rnds.eq_1 <| @rnds.eq_2) [0, 4, 5, 6, 19] [0, 1, 2, 3])) ?_
    intro ⟨t, ht⟩
    dsimp only
    by_cases hlt : (t : Int) < 64
    case neg =>
      obtain rfl : t = 64 := by omega
      repeat refine St hlt ct32 ?_
      refine AWP.loop (G := { i : Nat // i ≤ 8 }) (fun i => ⟨[(0, .ptr 0 0 []), (6, .ptr 1 0 []), (101, .t (.int .i64 (i.1 : Int)))], [.bx (.t (.ar 8 1 (mixS s (rnds b s 64) i.1))), .bx (.t (.ar 8 1 ((rnds b s 64).l.map u32T)))]⟩) (fun i => 8 - i.1) ⟨0, by omega⟩ ((Wt @mixS_0 [0, 6, 101] [0, 3])) ?_
      intro ⟨i, hi⟩
      dsimp only
      generalize hv : rnds b s 64 = v
      by_cases hl8 : (i : Int) < 8
      case neg =>
        obtain rfl : i = 8 := by omega
        have hfin : blkS s b = s.add v := by rw [← hv]; rfl
        repeat refine St hl8 ct32 ?_
        exact Fin (And.intro @mixS_8 <| hfin) [] [0]
      have hi8 : i < 8 := by omega
      have hml := mixS_len s v i (by omega)
      have hvl : (List.map u32T v.l).length = 8 := rfl
      have g1 := mixS_get s v i hi8
      have g2 := a8_get v i hi8
      have g3 := mixS_set s v i hi8
      have hk1 : IntKind.i64.wrap ((i : Int) + 1) = ((i + 1 : Nat) : Int) := by rw [wrap_i64 (by omega) (by omega)]; omega
      repeat refine St (And.intro hl8 <| And.intro hi8 <| And.intro hml <| And.intro hvl <| And.intro g1 <| And.intro g2 <| And.intro g3 <| And.intro @u32_add <| And.intro hk1 <| @T.size.eq_def) ct32 ?_
      exact ⟨⟨i + 1, by omega⟩, (Wt trivial [0, 6, 101] [0, 1]), by simp only; omega⟩
    have ht64 : t < 64 := by omega
    have hk1 : IntKind.i64.wrap ((t : Int) + 1) = ((t + 1 : Nat) : Int) := by rw [wrap_i64 (by omega) (by omega)]; omega
    have hkl : (List.map u32T kS).length = 64 := by simp [kS_len]
    have hwl : (List.map u32T (sch b 64)).length = 64 := by simp [sch_len]
    have hkg : (List.map u32T kS).getD t default = .int .u32 ((kS.getD t 0).toNat : Int) := u32T_getD (by rw [kS_len]; exact ht64)
    have hwg : (List.map u32T (sch b 64)).getD t default = .int .u32 (((sch b 64).getD t 0).toNat : Int) := u32T_getD (by rw [sch_len]; exact ht64)
    have hnx : rnds b s (t + 1) = rnd (rnds b s t) (kS.getD t 0) ((sch b 64).getD t 0) := rfl
    generalize rnds b s t = v at *
    generalize kS.getD t 0 = k at *
    generalize (sch b 64).getD t 0 = w at *
    repeat refine St (And.intro hlt <| And.intro (a8_eq v) <| And.intro @a8.eq_def <| And.intro hkl <| And.intro hwl <| And.intro hkg <| And.intro hwg <| And.intro ht64 <| And.intro hk1 <| And.intro @rotc2 <| And.intro @rotc6 <| And.intro @rotc11 <| And.intro @rotc13 <| And.intro @rotc22 <| And.intro @rotc25 <| And.intro @u32_xor <| And.intro @u32_and <| And.intro @u32_add <| And.intro @u32_not <| @T.size.eq_def) ct32 ?_
    exact ⟨⟨t + 1, by omega⟩, (Wt (And.intro hnx <| And.intro @rnd.eq_def <| And.intro @t1S.eq_def <| And.intro @t2S.eq_def <| And.intro @S8.l.eq_def <| @u32T.eq_def) [0, 4, 5, 6, 19] [0, 1, 2, 3]), by simp only; omega⟩
  · rename_i xs r n b
    split at hG
    case h_2 => cases hG
    rename_i s hs
    split at hG
    case isFalse => cases hG
    rename_i hb
    cases hG
    obtain rfl := asS8_inv hs
    have hsp : F34 [.by b] = some ([], .t (.ar 64 1 ((sch b 64).map u32T))) := if_pos hb
    repeat refine St (And.intro (And.intro @gentry.eq_1 <| @gentry.eq_2) <| And.intro hsp <| @F35.eq_def) ct32 ?_
    refine AWP.loop (G := { t : Nat // t ≤ 64 }) (fun t => ⟨[(0, .ptr 0 0 [0]), (4, .ptr 1 0 []), (5, .ptr 2 0 []), (6, .ptr 3 0 []), (19, .t (.int .i64 (t.1 : Int)))], [.bx (.t (.st [.ar 8 1 (s.l.map u32T), .by r, .int .u64 n])), .bx (.t (.ar 64 1 ((sch b 64).map u32T))), .bx (.t (.ar 64 1 (kS.map u32T))), .bx (.t (.ar 8 1 ((rnds b s t.1).l.map u32T)))]⟩) (fun t => 64 - t.1) ⟨0, by omega⟩ ((Wt (And.intro @rnds.eq_1 <| @rnds.eq_2) [0, 4, 5, 6, 19] [0, 1, 2, 3])) ?_
    intro ⟨t, ht⟩
    dsimp only
    by_cases hlt : (t : Int) < 64
    case neg =>
      obtain rfl : t = 64 := by omega
      repeat refine St hlt ct32 ?_
      refine AWP.loop (G := { i : Nat // i ≤ 8 }) (fun i => ⟨[(0, .ptr 0 0 [0]), (6, .ptr 1 0 []), (101, .t (.int .i64 (i.1 : Int)))], [.bx (.t (.st [.ar 8 1 (mixS s (rnds b s 64) i.1), .by r, .int .u64 n])), .bx (.t (.ar 8 1 ((rnds b s 64).l.map u32T)))]⟩) (fun i => 8 - i.1) ⟨0, by omega⟩ ((Wt @mixS_0 [0, 6, 101] [0, 3])) ?_
      intro ⟨i, hi⟩
      dsimp only
      generalize hv : rnds b s 64 = v
      by_cases hl8 : (i : Int) < 8
      case neg =>
        obtain rfl : i = 8 := by omega
        have hfin : blkS s b = s.add v := by rw [← hv]; rfl
        repeat refine St hl8 ct32 ?_
        exact Fin (And.intro @mixS_8 <| hfin) [] [0]
      have hi8 : i < 8 := by omega
      have hml := mixS_len s v i (by omega)
      have hvl : (List.map u32T v.l).length = 8 := rfl
      have g1 := mixS_get s v i hi8
      have g2 := a8_get v i hi8
      have g3 := mixS_set s v i hi8
      have hk1 : IntKind.i64.wrap ((i : Int) + 1) = ((i + 1 : Nat) : Int) := by rw [wrap_i64 (by omega) (by omega)]; omega
      repeat refine St (And.intro hl8 <| And.intro hi8 <| And.intro hml <| And.intro hvl <| And.intro g1 <| And.intro g2 <| And.intro g3 <| And.intro @u32_add <| And.intro hk1 <| @T.size.eq_def) ct32 ?_
      exact ⟨⟨i + 1, by omega⟩, (Wt trivial [0, 6, 101] [0, 1]), by simp only; omega⟩
    have ht64 : t < 64 := by omega
    have hk1 : IntKind.i64.wrap ((t : Int) + 1) = ((t + 1 : Nat) : Int) := by rw [wrap_i64 (by omega) (by omega)]; omega
    have hkl : (List.map u32T kS).length = 64 := by simp [kS_len]
    have hwl : (List.map u32T (sch b 64)).length = 64 := by simp [sch_len]
    have hkg : (List.map u32T kS).getD t default = .int .u32 ((kS.getD t 0).toNat : Int) := u32T_getD (by rw [kS_len]; exact ht64)
    have hwg : (List.map u32T (sch b 64)).getD t default = .int .u32 (((sch b 64).getD t 0).toNat : Int) := u32T_getD (by rw [sch_len]; exact ht64)
    have hnx : rnds b s (t + 1) = rnd (rnds b s t) (kS.getD t 0) ((sch b 64).getD t 0) := rfl
    generalize rnds b s t = v at *
    generalize kS.getD t 0 = k at *
    generalize (sch b 64).getD t 0 = w at *
    repeat refine St (And.intro hlt <| And.intro (a8_eq v) <| And.intro @a8.eq_def <| And.intro hkl <| And.intro hwl <| And.intro hkg <| And.intro hwg <| And.intro ht64 <| And.intro hk1 <| And.intro @rotc2 <| And.intro @rotc6 <| And.intro @rotc11 <| And.intro @rotc13 <| And.intro @rotc22 <| And.intro @rotc25 <| And.intro @u32_xor <| And.intro @u32_and <| And.intro @u32_add <| And.intro @u32_not <| @T.size.eq_def) ct32 ?_
    exact ⟨⟨t + 1, by omega⟩, (Wt (And.intro hnx <| And.intro @rnd.eq_def <| And.intro @t1S.eq_def <| And.intro @t2S.eq_def <| And.intro @S8.l.eq_def <| @u32T.eq_def) [0, 4, 5, 6, 19] [0, 1, 2, 3]), by simp only; omega⟩

end Go.Fw

end

section
/- Chapter 7: New, Write, Len. -/
namespace Go.Fw
open Go Go.Proofs
set_option linter.unusedVariables false
set_option linter.unusedSimpArgs false

/-- A hash that goes on. -/
abbrev hB (s : S8) (r : List UInt8) (n : Nat) : Blk := .bx (.t (.st [.ar 8 1 (s.l.map u32T), .by r, .int .u64 (n : Int)]))

def F25 : Fun
  | [] => some ([.bx (.t (.st [.ar 8 1 (hS.map u32T), .by [], .int .u64 0]))], .ptr 0 0 [])
  | _ => none

theorem ct25 : CT [(31, ⟨[], treeG F31⟩)] [0] [] := ⟨(.cons c31.g (.nil _))⟩

theorem c25 : ACon Try.prog 25 F25 := by
  refine aconc E_ok (rs := [.tmp 0 44]) Try.func25 rfl Try.ntmps25 (by kernel_rfl) rfl (by decide) F25 (np := 0) ?_ ?_
  · intro ts h; unfold F25; split <;> first | rfl | (simp at h; done)
  intro ts H r hF hwf
  unfold F25 at hF
  split at hF <;> try (cases hF; done)
  cases hF
  repeat refine St @F31.eq_def ct25 ?_
  refine AWP.weak (Wn 0 [1] 8 (.by [])) ?_
  exact AWP.ret (Fin trivial [] [0])

/-- The eight numbers behind so many blocks of some bytes. -/
def eatS (s : S8) (l : List UInt8) : Nat → S8
  | 0 => s
  | k + 1 => blkS (eatS s l k) ((l.drop (64 * k)).take 64)

theorem take_c1 (s : S8) {b : List UInt8} (h : b.length = 64) : G32 [.bx (.t (.ar 8 1 (s.l.map u32T)))] [.ptr 0 0 [], .t (.by b)] = some ([.bx (.t (.ar 8 1 ((blkS s b).l.map u32T)))], .tup []) := by
  simp only [G32, asS8_map]; rw [if_pos h]
theorem take_c2 (s : S8) (r : List UInt8) (n : Int) {b : List UInt8} (h : b.length = 64) : G32 [.bx (.t (.st [.ar 8 1 (s.l.map u32T), .by r, .int .u64 n]))] [.ptr 0 0 [0], .t (.by b)] = some ([.bx (.t (.st [.ar 8 1 ((blkS s b).l.map u32T), .by r, .int .u64 n]))], .tup []) := by
  simp only [G32, asS8_map]; rw [if_pos h]

noncomputable def G26 : GFun
  | [], [.t .nilp, .t (.by b)] => some ([], .tup [])
  | [.bx (.t (.st [.ar 8 1 xs, .by r, .int .u64 n]))], [.ptr 0 0 [], .t (.by b)] => match asS8 xs with
    | some s => if 0 ≤ n ∧ n ≤ 1000000000000 ∧ r.length ≤ 64 ∧ b.length ≤ 1000000000 then
        some ([.bx (.t (.st [.ar 8 1 ((eatS s (r ++ b) ((r ++ b).length / 64)).l.map u32T), .by ((r ++ b).drop (64 * ((r ++ b).length / 64))), .int .u64 (n + b.length)]))], .tup []) else none
    | none => none
  | _, _ => none

theorem ct26 : CT [(32, ⟨[true, false], G32⟩)] [0, 1, 5, 41] [(2, [⟨0, [0], [], []⟩, ⟨0, [0], [], []⟩, ⟨0, [17], [], []⟩, ⟨0, [18], [], []⟩, ⟨1, [19], [], []⟩, ⟨0, [0], [], []⟩, ⟨0, [21], [], []⟩, ⟨0, [22], [], []⟩, ⟨1, [23], [], []⟩, ⟨1, [24], [8], []⟩, ⟨0, [0], [], []⟩, ⟨0, [26], [], []⟩, ⟨0, [27], [], []⟩, ⟨1, [28], [], []⟩, ⟨1, [29], [13], []⟩, ⟨1, [20, 25, 30], [4, 8, 9, 13, 14], []⟩, ⟨0, [1], [], []⟩, ⟨2, [31, 32], [4, 8, 9, 13, 14, 15], []⟩, ⟨0, [16], [4, 8, 9, 13, 14, 15, 17], []⟩, ⟨0, [34], [4, 8, 9, 13, 14, 15, 17], []⟩, ⟨2, [33, 35], [4, 8, 9, 13, 14, 15, 17], []⟩]), (4, [⟨0, [0], [], []⟩, ⟨0, [42], [], []⟩, ⟨0, [43], [], []⟩, ⟨0, [0], [], []⟩, ⟨0, [45], [], []⟩, ⟨0, [46], [], []⟩, ⟨1, [47], [], []⟩, ⟨1, [48], [6], []⟩, ⟨2, [44, 49], [6, 7], []⟩])] := ⟨(.cons g32 (.nil _))⟩


set_option maxHeartbeats 1000000 in
theorem g26 : GCon Try.prog 26 G26 := by
  refine gconc E_ok (rs := []) Try.func26 rfl Try.ntmps26 (by kernel_rfl) rfl (by decide) G26 (np := 2) ?_ ?_
  · intro HB xs h; unfold G26; split <;> first | rfl | (simp at h; done)
  intro HB xs H r hG hwf hex
  unfold G26 at hG
  split at hG <;> try (cases hG; done)
  · cases hG
    repeat refine St (And.intro @gentry.eq_1 <| @gentry.eq_2) ct26 ?_
    exact AWP.ret (Fin trivial [] [])
  · rename_i xs r n b
    split at hG
    case h_2 => cases hG
    rename_i s hs
    split at hG
    case isFalse => cases hG
    rename_i hc
    obtain ⟨hn0, hn1, hr, hb⟩ := hc
    cases hG
    obtain rfl := asS8_inv hs
    have hw1 : IntKind.u64.wrap (b.length : Int) = (b.length : Int) := wrap_u64 (by omega) (by omega)
    have hw2 : IntKind.u64.wrap (n + (b.length : Int)) = n + (b.length : Int) := wrap_u64 (by omega) (by omega)
    have hr1 : r.length ≤ r.length := Nat.le_refl _
    repeat refine St (And.intro (And.intro @gentry.eq_1 <| @gentry.eq_2) <| And.intro hw1 <| And.intro hw2 <| And.intro hr <| hb) ct26 ?_
    obtain ⟨N, hN⟩ : ∃ N, n + (b.length : Int) = N := ⟨_, rfl⟩
    rw [hN]
    have hrl : (r ++ b).length ≤ 2000000000 := by simp; omega
    obtain ⟨l, hl⟩ : ∃ l, r ++ b = l := ⟨_, rfl⟩
    rw [hl] at hrl ⊢
    refine AWP.loop (G := { k : Nat // 64 * k ≤ l.length }) (fun k => ⟨[(0, .ptr 0 0 [])], [.bx (.t (.st [.ar 8 1 ((eatS s l k.1).l.map u32T), .by (l.drop (64 * k.1)), .int .u64 N]))]⟩) (fun k => l.length - 64 * k.1) ⟨0, by omega⟩ ((Wt (And.intro (And.intro @eatS.eq_1 <| @eatS.eq_2) <| @Nat.mul_zero) [0] [0])) ?_
    intro ⟨k, hk⟩
    dsimp only
    have hdl : (l.drop (64 * k)).length = l.length - 64 * k := by simp
    have hnx : eatS s l (k + 1) = blkS (eatS s l k) ((l.drop (64 * k)).take 64) := rfl
    obtain ⟨v, hv⟩ : ∃ v, eatS s l k = v := ⟨_, rfl⟩
    rw [hv] at hnx ⊢
    have hdd : (l.drop (64 * k)).drop 64 = l.drop (64 * (k + 1)) := by rw [List.drop_drop]; congr 1
    obtain ⟨d, hd⟩ : ∃ d, l.drop (64 * k) = d := ⟨_, rfl⟩
    rw [hd] at hdd hdl hnx ⊢
    by_cases h64 : 64 ≤ (d.length : Int)
    · have h64' : 64 ≤ d.length := by omega
      have htl : (d.take 64).length = 64 := by simp; omega
      have htk := take_c2 v d N htl
      repeat refine St (And.intro h64 <| And.intro h64' <| And.intro hdd <| htk) ct26 ?_
      exact ⟨⟨k + 1, by omega⟩, (Wt hnx [0] [0]), by simp only; omega⟩
    · obtain rfl : k = l.length / 64 := by omega
      repeat refine St h64 ct26 ?_
      exact Fin (And.intro hv <| hd) [] [0]

end Go.Fw

end

section
/- Chapter 7: the hash's end. -/
namespace Go.Fw
open Go Go.Proofs
set_option linter.unusedVariables false
set_option linter.unusedSimpArgs false

/-- How many noughts are put behind so many bytes and one. -/
def padK (m : Nat) : Nat := (119 - m % 64) % 64
def beB (N j : Nat) : UInt8 := UInt8.ofNat (N / 2 ^ (56 - 8 * j))
def be8 (N j : Nat) : List UInt8 := (List.range j).map (beB N)
theorem be8_snoc (N j : Nat) : be8 N j ++ [beB N j] = be8 N (j + 1) := by simp [be8, List.range_succ]
theorem be8_len (N j : Nat) : (be8 N j).length = j := by simp [be8]
def padS (r : List UInt8) (n : Nat) : List UInt8 := r ++ (128 :: repl (padK r.length) 0) ++ be8 (n * 8) 8
theorem padS_len (r : List UInt8) (n : Nat) : (padS r n).length % 64 = 0 := by
  simp only [padS, List.length_append, List.length_cons, repl_len, be8_len, padK]; omega

def outB (s : S8) (p : Nat) : UInt8 := ((s.l.getD (p / 4) 0) >>> UInt32.ofNat (24 - 8 * (p % 4))).toUInt8
def outM (s : S8) (p : Nat) : List UInt8 := (List.range 32).map fun j => if j < p then outB s j else 0
def outS (s : S8) : List UInt8 := (List.range 32).map (outB s)
theorem outM_0 (s : S8) : outM s 0 = zby 32 := rfl
theorem outM_32 (s : S8) : outM s 32 = outS s := by
  simp only [outM, outS]
  apply List.map_congr_left
  intro j hj
  rw [if_pos (by simpa using hj)]
theorem outM_len (s : S8) (p : Nat) : (outM s p).length = 32 := by simp [outM]
theorem outM_set (s : S8) {p : Nat} (h : p < 32) : (outM s p).set p (outB s p) = outM s (p + 1) := by
  apply List.ext_getElem
  · simp [outM]
  · intro j h1 h2
    simp only [List.length_set, outM_len] at h1
    rw [List.getElem_set]
    simp only [outM, List.getElem_map, List.getElem_range]
    by_cases e : p = j
    · subst e; simp
    · simp only [e, if_false]
      by_cases h3 : j < p
      · rw [if_pos h3, if_pos (by omega)]
      · rw [if_neg h3, if_neg (by omega)]

/-- The hash of what was taken, and of what is left. -/
def finS (s : S8) (r : List UInt8) (n : Nat) : List UInt8 := outS (eatS s (padS r n) ((padS r n).length / 64))

noncomputable def G27r : GFun
  | [.bx (.t (.st [.ar 8 1 xs, .by r, .int .u64 n]))], [.ptr 0 0 []] => match asS8 xs with
    | some s => if 0 ≤ n ∧ n ≤ 1000000000000 ∧ r.length ≤ 64 then some ([.bx (.t (.st [.ar 8 1 xs, .by r, .int .u64 n]))], .t (.ba 32 (finS s r n.toNat))) else none
    | none => none
  | _, _ => none

theorem ct27 : CT [(25, ⟨[], treeG F25⟩), (32, ⟨[true, false], G32⟩)] [0, 2, 3, 4, 5, 6, 7, 8, 9, 10, 12, 27, 37, 53, 59, 60, 61, 64, 65] [] := ⟨(.cons c25.g (.cons g32 (.nil _)))⟩

theorem beB_eq (n j : Nat) (h : n ≤ 1000000000000) (hj : j < 8) : UInt8.ofNat (IntKind.u8.wrap (Int.fdiv ((n * 8 : Nat) : Int) (2 ^ (min (56 - 8 * j) IntKind.u64.bits)))).toNat = beB (n * 8) j := by
  have e : min (56 - 8 * j) IntKind.u64.bits = 56 - 8 * j := by rw [bits_u64]; omega
  rw [e, Int.fdiv_eq_ediv_of_nonneg _ (by exact_mod_cast Nat.zero_le _)]
  have e2 : (2 : Int) ^ (56 - 8 * j) = ((2 ^ (56 - 8 * j) : Nat) : Int) := by rw [Int.natCast_pow]; rfl
  rw [e2, ← Int.natCast_ediv, wrapu8]
  unfold beB
  generalize n * 8 / 2 ^ (56 - 8 * j) = m
  have : ((m : Int) % 256).toNat = m % 256 := by omega
  rw [this]
  apply UInt8.toNat_inj.1
  simp

set_option maxHeartbeats 2000000 in
theorem g27r : GCon Try.prog 27 G27r := by
  refine gconc E_ok (rs := [.cell 2 24]) Try.func27 rfl Try.ntmps27 (by kernel_rfl) rfl (by decide) G27r (np := 1) ?_ ?_
  · intro HB xs h; unfold G27r; split <;> first | rfl | (simp at h; done)
  intro HB xs H r hG hwf hex
  unfold G27r at hG
  split at hG <;> try (cases hG; done)
  rename_i xs r n
  split at hG
  case h_2 => cases hG
  rename_i s hs
  split at hG
  case isFalse => cases hG
  rename_i hc
  obtain ⟨hn0, hn1, hr⟩ := hc
  cases hG
  obtain rfl := asS8_inv hs
  obtain ⟨N, rfl⟩ : ∃ N : Nat, n = (N : Int) := ⟨n.toNat, by omega⟩
  simp only [Int.toNat_natCast]
  have e128 : ∀ l : List UInt8, (l ++ [128]).length = l.length + 1 := fun l => by simp
  repeat refine St (And.intro (And.intro @gentry.eq_1 <| @gentry.eq_2) <| And.intro hr <| e128) ct27 ?_
  have hp64 : (r ++ UInt8.ofNat 128 :: repl (padK r.length) 0).length % 64 = 56 := by simp only [List.length_append, List.length_cons, repl_len, padK]; omega
  refine AWP.loop (G := { k : Nat // k ≤ padK r.length }) (fun k => ⟨[(0, .ptr 0 0 []), (2, .ptr 1 0 []), (3, .own 2)], [hB s r N, .bx (.t (.ba 32 (zby 32))), .by (r ++ (UInt8.ofNat 128 :: repl k.1 0))]⟩) (fun k => padK r.length - k.1) ⟨0, by omega⟩ ((Wt @repl_0 [0, 2, 3] [0, 1, 5])) ?_
  intro ⟨k, hk⟩
  dsimp only
  obtain ⟨L, hL⟩ : ∃ L, r ++ (UInt8.ofNat 128 :: repl k (0 : UInt8)) = L := ⟨_, rfl⟩
  have hLl : L.length = r.length + 1 + k := by rw [← hL]; simp only [List.length_append, List.length_cons, repl_len]; omega
  have hnx : L ++ [UInt8.ofNat 0] = r ++ (UInt8.ofNat 128 :: repl (k + 1) 0) := by rw [← hL, ← repl_snoc]; simp
  rw [hL]
  have hrem : IntKind.i64.wrap (Int.tmod (L.length : Int) 64) = ((L.length % 64 : Nat) : Int) := by
    have : Int.tmod (L.length : Int) 64 = ((L.length % 64 : Nat) : Int) := by rw [Int.tmod_eq_emod_of_nonneg (by omega)]; omega
    rw [this, wrap_i64 (by omega) (by omega)]
  have hkK : padK r.length = (119 - r.length % 64) % 64 := rfl
  have hLs : L.length ≤ 200 := by omega
  by_cases hd : L.length % 64 = 56
  · have hkk : k = padK r.length := by omega
    have hd' : (((L.length % 64 : Nat) : Int) != 56) = false := by simp; omega
    rw [← hkk] at hp64
    have hpad : padS r N = L ++ be8 (N * 8) 8 := by rw [← hL, hkk]; rfl
    have hmul : IntKind.u64.wrap ((N : Int) * 8) = ((N * 8 : Nat) : Int) := by rw [wrap_u64 (by omega) (by omega)]; omega
    repeat refine St (And.intro hrem <| And.intro hd' <| hmul) ct27 ?_
    have hLs' : L.length ≤ 200 := by omega
    refine AWP.loop (G := { x : Nat × Int // x.1 ≤ 8 ∧ x.2 = 56 - 8 * (x.1 : Int) }) (fun x => ⟨[(0, .ptr 0 0 []), (2, .ptr 1 0 []), (3, .own 2), (4, .t (.int .u64 ((N * 8 : Nat) : Int))), (5, .t (.int .i64 x.1.2))], [hB s r N, .bx (.t (.ba 32 (zby 32))), .by (L ++ be8 (N * 8) x.1.1)]⟩) (fun x => 8 - x.1.1) ⟨(0, 56), by omega, rfl⟩ ((Wt (show be8 (N * 8) 0 = [] from rfl) [0, 2, 3, 4, 5] [0, 1, 2])) ?_
    intro ⟨⟨j, q⟩, hj, hq⟩
    dsimp only at hj hq ⊢
    have hbl := be8_len (N * 8) j
    by_cases hq0 : 0 ≤ q
    · have hj8 : j < 8 := by omega
      have hqn : q = ((56 - 8 * j : Nat) : Int) := by omega
      have hbyte := beB_eq N j (by omega) hj8
      have hqt : q.toNat = 56 - 8 * j := by omega
      have hq0' : ¬ q < 0 := by omega
      have hk8 : IntKind.i64.wrap (q - 8) = q - 8 := wrap_i64 (by omega) (by omega)
      have hal : (L ++ be8 (N * 8) j).length ≤ 300 := by simp [hbl]; omega
      have hsn : (L ++ be8 (N * 8) j) ++ [beB (N * 8) j] = L ++ be8 (N * 8) (j + 1) := by rw [List.append_assoc, be8_snoc]
      obtain ⟨M, hM⟩ : ∃ M, L ++ be8 (N * 8) j = M := ⟨_, rfl⟩
      rw [hM] at hal hsn ⊢
      repeat refine St (And.intro hq0 <| And.intro hq0' <| And.intro hqt <| And.intro hbyte <| And.intro hk8 <| hal) ct27 ?_
      exact ⟨⟨(j + 1, q - 8), by omega, by simp only; omega⟩, (Wt hsn [0, 2, 3, 4, 5] [0, 1, 4]), by simp only; omega⟩
    · obtain rfl : j = 8 := by omega
      rw [← hpad]
      have hpl := padS_len r N
      have hfin : finS s r N = outS (eatS s (padS r N) ((padS r N).length / 64)) := rfl
      have hps : (padS r N).length ≤ 300 := by rw [hpad]; simp [hbl]; omega
      obtain ⟨P, hP⟩ : ∃ P, padS r N = P := ⟨_, rfl⟩
      rw [hP] at hpl hfin hps ⊢
      repeat refine St (And.intro hq0 <| @T.size.eq_def) ct27 ?_
      refine AWP.weak (Weak.freeze 2) ?_
      refine AWP.weak (Weak.thawS (y := .by P) 3 rfl) ?_
      refine AWP.loop (G := { k : Nat // 64 * k ≤ P.length }) (fun k => ⟨[(2, .ptr 1 0 []), (3, .t (.by (P.drop (64 * k.1)))), (6, .ptr 2 0 [])], [hB s r N, .bx (.t (.ba 32 (zby 32))), .bx (.t (.ar 8 1 ((eatS s P k.1).l.map u32T)))]⟩) (fun k => P.length - 64 * k.1) ⟨0, by omega⟩ ((Wt (And.intro @freezeOne.eq_def <| And.intro (And.intro @eatS.eq_1 <| @eatS.eq_2) <| @Nat.mul_zero) [2, 3, 6] [0, 1, 3])) ?_
      intro ⟨k, hk⟩
      dsimp only
      have hdl : (P.drop (64 * k)).length = P.length - 64 * k := by simp
      have hnx : eatS s P (k + 1) = blkS (eatS s P k) ((P.drop (64 * k)).take 64) := rfl
      have hdd : (P.drop (64 * k)).drop 64 = P.drop (64 * (k + 1)) := by rw [List.drop_drop]; congr 1
      obtain ⟨v, hv⟩ : ∃ v, eatS s P k = v := ⟨_, rfl⟩
      obtain ⟨d, hd⟩ : ∃ d, P.drop (64 * k) = d := ⟨_, rfl⟩
      rw [hv, hd] at hnx
      rw [hd] at hdl hdd
      rw [hv, hd]
      by_cases h64 : 0 < (d.length : Int)
      · have h64' : 64 ≤ d.length := by omega
        have h64i : 64 ≤ (d.length : Int) := by omega
        have htl : (d.take 64).length = 64 := by simp; omega
        have htk := take_c1 v htl
        repeat refine St (And.intro h64 <| And.intro h64' <| And.intro h64i <| And.intro hdd <| htk) ct27 ?_
        exact ⟨⟨k + 1, by omega⟩, (Wt hnx [2, 3, 6] [0, 1, 2]), by simp only; omega⟩
      · have hkk : k = P.length / 64 := by omega
        rw [← hkk, hv] at hfin
        repeat refine St h64 ct27 ?_
        refine AWP.loop (G := { i : Nat // i ≤ 8 }) (fun i => ⟨[(2, .ptr 1 0 []), (7, .ptr 2 0 []), (59, .t (.ar 8 1 (v.l.map u32T))), (60, .t (.int .i64 (i.1 : Int)))], [hB s r N, .bx (.t (.ba 32 (zby 32))), .bx (.t (.ba 32 (outM v (4 * i.1))))]⟩) (fun i => 8 - i.1) ⟨0, by omega⟩ ((Wt (And.intro @Nat.mul_zero <| @outM_0) [2, 7, 59, 60] [0, 1, 3])) ?_
        intro ⟨i, hi⟩
        dsimp only
        by_cases hi8 : (i : Int) < 8
        case neg =>
          obtain rfl : i = 8 := by omega
          have ho := outM_32 v
          have hol := outM_len v 32
          repeat refine St (And.intro hi8 <| And.intro @T.size.eq_def <| And.intro (show 4 * 8 = 32 from rfl) <| ho) ct27 ?_
          exact AWP.ret (Fin hfin [] [0])
        have hi8' : i < 8 := by omega
        have hvl : (List.map u32T v.l).length = 8 := rfl
        have hvg := a8_get v i hi8'
        have hki : IntKind.i64.wrap ((i : Int) + 1) = ((i + 1 : Nat) : Int) := by rw [wrap_i64 (by omega) (by omega)]; omega
        repeat refine St (And.intro hi8 <| And.intro hi8' <| And.intro hvl <| hvg) ct27 ?_
        refine AWP.loop (G := { j : Nat // j ≤ 4 }) (fun j => ⟨[(2, .ptr 1 0 []), (7, .ptr 2 0 []), (8, .t (.int .i64 (i : Int))), (9, .t (.int .u32 ((v.l.getD i 0).toNat : Int))), (59, .t (.ar 8 1 (v.l.map u32T))), (60, .t (.int .i64 (i : Int))), (64, .t (.int .i64 (j.1 : Int)))], [hB s r N, .bx (.t (.ba 32 (zby 32))), .bx (.t (.ba 32 (outM v (4 * i + j.1))))]⟩) (fun j => 4 - j.1) ⟨0, by omega⟩ ((Wt trivial [2, 7, 8, 9, 59, 60, 64] [0, 1, 2])) ?_
        intro ⟨j, hj⟩
        dsimp only
        by_cases hj4 : (j : Int) < 4
        · have hj4' : j < 4 := by omega
          have hm4 : IntKind.i64.wrap (4 * (i : Int)) = ((4 * i : Nat) : Int) := by rw [wrap_i64 (by omega) (by omega)]; omega
          have hm4j : IntKind.i64.wrap (((4 * i : Nat) : Int) + (j : Int)) = ((4 * i + j : Nat) : Int) := by rw [wrap_i64 (by omega) (by omega)]; omega
          have hm8 : IntKind.i64.wrap (8 * (j : Int)) = ((8 * j : Nat) : Int) := by rw [wrap_i64 (by omega) (by omega)]; omega
          have hm24 : IntKind.i64.wrap (24 - ((8 * j : Nat) : Int)) = ((24 - 8 * j : Nat) : Int) := by rw [wrap_i64 (by omega) (by omega)]; omega
          have hnn : ¬ ((24 - 8 * j : Nat) : Int) < 0 := by omega
          have hsh := u32_shr (v.l.getD i 0) (24 - 8 * j) (by omega)
          have hob : ((v.l.getD i 0) >>> UInt32.ofNat (24 - 8 * j)).toUInt8 = outB v (4 * i + j) := by
            unfold outB
            rw [show (4 * i + j) / 4 = i by omega, show (4 * i + j) % 4 = j by omega]
          have hp32 : 4 * i + j < 32 := by omega
          have hp32i : ((4 * i + j : Nat) : Int) < 32 := by omega
          have hset := outM_set v hp32
          have hol := outM_len v (4 * i + j)
          have hkj : IntKind.i64.wrap ((j : Int) + 1) = ((j + 1 : Nat) : Int) := by rw [wrap_i64 (by omega) (by omega)]; omega
          have hof : ∀ c : UInt8, UInt8.ofNat c.toNat = c := fun c => by simp
          obtain ⟨p, hp⟩ : ∃ p, 4 * i + j = p := ⟨_, rfl⟩
          have hpn : p + 1 = 4 * i + (j + 1) := by omega
          rw [hp] at hm4j hob hp32 hp32i hset hol ⊢
          repeat refine St (And.intro hj4 <| And.intro hj4' <| And.intro hm4 <| And.intro hm4j <| And.intro hm8 <| And.intro hm24 <| And.intro hnn <| And.intro hsh <| And.intro @u8_of_u32 <| And.intro hob <| And.intro hp32 <| And.intro hp32i <| And.intro hof <| And.intro hset <| And.intro hol <| And.intro hkj <| @T.size.eq_def) ct27 ?_
          exact ⟨⟨j + 1, by omega⟩, (Wt hpn [2, 7, 8, 9, 59, 60, 64] [0, 1, 2]), by simp only; omega⟩
        · obtain rfl : j = 4 := by omega
          have hpn : 4 * i + 4 = 4 * (i + 1) := by omega
          repeat refine St (And.intro hj4 <| hki) ct27 ?_
          exact ⟨⟨i + 1, by omega⟩, (Wt hpn [2, 7, 59, 60] [0, 1, 2]), by simp only; omega⟩
  · have hd' : (((L.length % 64 : Nat) : Int) != 56) = true := by simp; omega
    repeat refine St (And.intro hrem <| And.intro hd' <| hLs) ct27 ?_
    exact ⟨⟨k + 1, by omega⟩, (Wt hnx [0, 2, 3] [0, 1, 4]), by simp only; omega⟩

end Go.Fw

end

section
/- Chapter 7: the hash of a whole message. -/
namespace Go.Fw
open Go Go.Proofs
set_option linter.unusedVariables false
set_option linter.unusedSimpArgs false

theorem eatS_app (s : S8) (l m : List UInt8) : ∀ k, 64 * k ≤ l.length → eatS s (l ++ m) k = eatS s l k
  | 0, _ => rfl
  | k + 1, h => by
    simp only [eatS]
    rw [eatS_app s l m k (by omega), List.drop_append_of_le_length (by omega), List.take_append_of_le_length (by simp; omega)]
theorem eatS_add (s : S8) (l : List UInt8) (k : Nat) : ∀ j, eatS (eatS s l k) (l.drop (64 * k)) j = eatS s l (k + j)
  | 0 => rfl
  | j + 1 => by
    rw [show k + (j + 1) = (k + j) + 1 by omega]
    simp only [eatS]
    rw [eatS_add s l k j, List.drop_drop]
    congr 3; omega

/-- A hash behind some bytes. -/
def restS (l : List UInt8) : List UInt8 := l.drop (64 * (l.length / 64))
def eatenS (l : List UInt8) : S8 := eatS h0S l (l.length / 64)
abbrev msgB (l : List UInt8) : Blk := hB (eatenS l) (restS l) l.length
def shaL (l : List UInt8) : List UInt8 := finS h0S l l.length

theorem restS_len (l : List UInt8) : (restS l).length ≤ 64 := by simp [restS]; omega
theorem rest_app (l b : List UInt8) : restS l ++ b = (l ++ b).drop (64 * (l.length / 64)) := by
  unfold restS; rw [List.drop_append_of_le_length (by omega)]

theorem write_c (l b : List UInt8) (h : l.length ≤ 1000000000000) (hb : b.length ≤ 1000000000) :
    G26 [.bx (.t (.st [.ar 8 1 ((eatenS l).l.map u32T), .by (restS l), .int .u64 (l.length : Int)]))] [.ptr 0 0 [], .t (.by b)] = some ([msgB (l ++ b)], .tup []) := by
  simp only [G26, asS8_map]
  rw [if_pos ⟨by omega, by omega, restS_len l, hb⟩]
  have hq : (l ++ b).length / 64 = l.length / 64 + (restS l ++ b).length / 64 := by simp [restS]; omega
  have h1 : eatS (eatenS l) (restS l ++ b) ((restS l ++ b).length / 64) = eatenS (l ++ b) := by
    unfold eatenS
    rw [hq, ← eatS_add, rest_app l b, eatS_app h0S l b _ (by omega)]
  have h2 : (restS l ++ b).drop (64 * ((restS l ++ b).length / 64)) = restS (l ++ b) := by
    show _ = (l ++ b).drop (64 * ((l ++ b).length / 64))
    rw [hq, rest_app l b, List.drop_drop]; congr 1; omega
  rw [h1, h2]
  simp only [msgB, hB, List.length_append, Int.natCast_add]

theorem fin_c (l : List UInt8) : finS (eatenS l) (restS l) l.length = shaL l := by
  have hk : padK (restS l).length = padK l.length := by simp [restS, padK]; omega
  have hp : padS (restS l) l.length = (padS l l.length).drop (64 * (l.length / 64)) := by
    simp only [padS, hk]
    rw [List.append_assoc, rest_app, List.append_assoc]
  have hl : (padS l l.length).length / 64 = l.length / 64 + (padS (restS l) l.length).length / 64 := by
    rw [hp]
    have : l.length ≤ (padS l l.length).length := by simp only [padS, List.length_append]; omega
    simp only [List.length_drop]; omega
  have he : eatenS l = eatS h0S (padS l l.length) (l.length / 64) := by
    simp only [eatenS, padS]
    rw [List.append_assoc, eatS_app h0S l _ _ (by omega)]
  simp only [shaL, finS]
  rw [hl, ← eatS_add, ← he, ← hp]

noncomputable def G27 : GFun
  | [], [.t .nilp] => some ([], .t (.ba 32 (shaL [])))
  | [.bx (.t (.st [.ar 8 1 xs, .by r, .int .u64 n]))], [.ptr 0 0 []] => G27r [.bx (.t (.st [.ar 8 1 xs, .by r, .int .u64 n]))] [.ptr 0 0 []]
  | _, _ => none

theorem sum_c (l : List UInt8) (h : l.length ≤ 1000000000000) :
    G27r [.bx (.t (.st [.ar 8 1 ((eatenS l).l.map u32T), .by (restS l), .int .u64 (l.length : Int)]))] [.ptr 0 0 []] = some ([msgB l], .t (.ba 32 (shaL l))) := by
  simp only [G27r, asS8_map]
  rw [if_pos ⟨by omega, by omega, restS_len l⟩, Int.toNat_natCast, fin_c]
theorem sum_0 : G27r [.bx (.t (.st [.ar 8 1 (hS.map u32T), .by [], .int .u64 0]))] [.ptr 0 0 []] = some ([.bx (.t (.st [.ar 8 1 (hS.map u32T), .by [], .int .u64 0]))], .t (.ba 32 (shaL []))) := sum_c [] (by simp)

theorem ct27b : CT [(25, ⟨[], treeG F25⟩), (27, ⟨[true], G27r⟩), (32, ⟨[true, false], G32⟩)] [0, 2, 3, 4, 5, 6, 7, 8, 9, 10, 12, 27, 37, 53, 59, 60, 61, 64, 65] [] := ⟨(.cons c25.g (.cons g27r (.cons g32 (.nil _))))⟩

noncomputable def G27n : GFun
  | [], [.t .nilp] => some ([], .t (.ba 32 (shaL [])))
  | _, _ => none

theorem g27n : GCon Try.prog 27 G27n := by
  refine gconc E_ok (rs := [.cell 2 24]) Try.func27 rfl Try.ntmps27 (by kernel_rfl) rfl (by decide) G27n (np := 1) ?_ ?_
  · intro HB xs h; unfold G27n; split <;> first | rfl | (simp at h; done)
  intro HB xs H r hG hwf hex
  unfold G27n at hG
  split at hG <;> try (cases hG; done)
  
  cases hG
  repeat refine St (And.intro @F25.eq_def <| And.intro (And.intro @gentry.eq_1 <| @gentry.eq_2) <| @sum_0) ct27b ?_
  exact AWP.ret (Fin trivial [] [])


theorem g27 : GCon Try.prog 27 G27 := by
  refine ⟨g27r.1, fun HB xs H' r hG => ?_⟩
  unfold G27 at hG
  split at hG
  · exact g27n.2 [] [.t .nilp] H' r hG
  · exact g27r.2 _ _ H' r hG
  · cases hG

end Go.Fw

end

section
/- Chapter 7: Sum, Double, Tagged. -/
namespace Go.Fw
open Go Go.Proofs
set_option linter.unusedVariables false
set_option linter.unusedSimpArgs false

theorem shaL_len (l : List UInt8) : (shaL l).length = 32 := by simp [shaL, finS, outS]

noncomputable def F23 : Fun
  | [.by b] => if b.length ≤ 1000000000 then some ([], .t (.ba 32 (shaL b))) else none
  | _ => none

theorem ct23 : CT [(25, ⟨[], treeG F25⟩), (26, ⟨[true, false], G26⟩), (27, ⟨[true], G27⟩)] [0, 2, 3] [] := ⟨(.cons c25.g (.cons g26 (.cons g27 (.nil _))))⟩

theorem msg_0 : msgB [] = .bx (.t (.st [.ar 8 1 (hS.map u32T), .by [], .int .u64 0])) := rfl

theorem c23 : ACon Try.prog 23 F23 := by
  refine aconc E_ok (rs := [.cell 2 24]) Try.func23 rfl Try.ntmps23 (by kernel_rfl) rfl (by decide) F23 (np := 1) ?_ ?_
  · intro ts h; unfold F23; split <;> first | rfl | (simp at h; done)
  intro ts H r hF hwf
  unfold F23 at hF
  split at hF <;> try (cases hF; done)
  rename_i b
  split at hF
  case isFalse => cases hF
  rename_i hb
  cases hF
  have hw : G26 [.bx (.t (.st [.ar 8 1 (hS.map u32T), .by [], .int .u64 0]))] [.ptr 0 0 [], .t (.by b)] = some ([msgB b], .tup []) := write_c [] b (by simp) hb
  have hs : G27 [msgB b] [.ptr 0 0 []] = some ([msgB b], .t (.ba 32 (shaL b))) := sum_c b (by omega)
  repeat refine St (And.intro @F25.eq_def <| hw) ct23 ?_
  repeat refine St hs ct23 ?_
  exact AWP.ret (Fin trivial [] [])

theorem shasum_c {b : List UInt8} (h : b.length ≤ 1000000000) : F23 [.by b] = some ([], .t (.ba 32 (shaL b))) := if_pos h

noncomputable def F21 : Fun
  | [.by b] => if b.length ≤ 1000000000 then some ([], .t (.ba 32 (shaL (shaL b)))) else none
  | _ => none

theorem ct21 : CT [(23, ⟨[false], treeG F23⟩)] [0, 2, 3] [] := ⟨(.cons c23.g (.nil _))⟩

theorem c21 : ACon Try.prog 21 F21 := by
  refine aconc E_ok (rs := [.cell 2 24]) Try.func21 rfl Try.ntmps21 (by kernel_rfl) rfl (by decide) F21 (np := 1) ?_ ?_
  · intro ts h; unfold F21; split <;> first | rfl | (simp at h; done)
  intro ts H r hF hwf
  unfold F21 at hF
  split at hF <;> try (cases hF; done)
  rename_i b
  split at hF
  case isFalse => cases hF
  rename_i hb
  cases hF
  have h1 := shasum_c hb
  have hl := shaL_len b
  have h2 : F23 [.by (shaL b)] = some ([], .t (.ba 32 (shaL (shaL b)))) := shasum_c (by omega)
  generalize shaL (shaL b) = y at *
  obtain ⟨x, hx⟩ : ∃ x, shaL b = x := ⟨_, rfl⟩
  rw [hx] at h1 hl h2
  have ht : x.take 32 = x := List.take_of_length_le (by omega)
  repeat refine St (And.intro h1 <| And.intro hl <| And.intro h2 <| ht) ct21 ?_
  exact AWP.ret (Fin trivial [] [])

/-- The hash of bytes behind a tag. -/
def tagL (tag b : List UInt8) : List UInt8 := shaL (shaL tag ++ shaL tag ++ b)

theorem write_c' {l b : List UInt8} (h : l.length ≤ 1000000000000) (hb : b.length ≤ 1000000000) :
    G26 [msgB l] [.ptr 0 0 [], .t (.by b)] = some ([msgB (l ++ b)], .tup []) := write_c l b h hb

end Go.Fw

end

section
/- merkle: pairs, rows, roots. -/
namespace Go.Fw
open Go Go.Proofs
set_option linter.unusedVariables false
set_option linter.unusedSimpArgs false

def pairS (a b : Hs) : Hs := shaL (shaL (a ++ b))
theorem pairS_len (a b : Hs) : (pairS a b).length = 32 := shaL_len _
abbrev hT (h : Hs) : T := .ba 32 h
theorem hT_inj : ∀ a b : List Hs, a.map hT = b.map hT → a = b
  | [], [], _ => rfl
  | [], _ :: _, h => by simp at h
  | _ :: _, [], h => by simp at h
  | x :: a, y :: b, h => by
    simp only [List.map_cons, List.cons.injEq, T.ba.injEq, true_and] at h
    rw [h.1, hT_inj a b h.2]
noncomputable def asHs (xs : List T) : Option (List Hs) := inv (fun l : List Hs => l.map hT) xs
theorem asHs_map (l : List Hs) : asHs (l.map hT) = some l := inv_of hT_inj l
theorem asHs_inv {xs : List T} {l : List Hs} (h : asHs xs = some l) : xs = l.map hT := inv_inv (f := fun l : List Hs => l.map hT) h
theorem hs_wf {l : List Hs} (h : (T.sq 32 (l.map hT)).wf) : l.length ≤ maxLen ∧ ∀ x ∈ l, x.length = 32 := by
  simp only [T.wf, List.length_map] at h
  refine ⟨h.2.1, fun x hx => ?_⟩
  have := (T.wfL_iff _).1 h.2.2.2 (hT x) (List.mem_map_of_mem hx)
  simpa only [T.wf] using this
theorem hs_getD {l : List Hs} {i : Nat} (h : i < l.length) : (l.map hT).getD i default = .ba 32 (l.getD i []) := by simp [h]
theorem hs_at {l : List Hs} {i : Nat} (h : i < l.length) (hl : ∀ x ∈ l, x.length = 32) : (l.getD i []).length = 32 := by
  have : l.getD i [] = l[i] := by simp [h]
  rw [this]; exact hl _ (List.getElem_mem _)
theorem hs_snoc (l : List Hs) (x : Hs) : (l ++ [x]).map hT = l.map hT ++ [.ba 32 x] := by simp
theorem clean_hs (l : List Hs) : T.cleanL (l.map hT) = true := by
  induction l with
  | nil => rfl
  | cons x l ih => simp only [List.map_cons, T.cleanL, ih]; rfl
theorem liftS_32 {l : List Hs} : ∀ x ∈ liftS pairS l, x.length = 32 := by
  match l with
  | [] => intro x hx; simp [liftS] at hx
  | [a] => intro x hx; simp [liftS] at hx; rw [hx]; exact pairS_len _ _
  | a :: b :: l =>
    intro x hx
    simp only [liftS, List.mem_cons] at hx
    rcases hx with rfl | hx
    · exact pairS_len _ _
    · exact liftS_32 x hx
theorem lay1 {a : Hs} (h : a.length = 32) : laid (zby 64) a 0 32 = a ++ zby 32 := by
  unfold laid
  rw [List.take_of_length_le (by omega : a.length ≤ 32)]
  simp [zby]
theorem lay2 {a b : Hs} (h : a.length = 32) (hb : b.length = 32) : laid (a ++ zby 32) b 32 32 = a ++ b := by
  unfold laid
  rw [List.take_of_length_le (by omega : b.length ≤ 32), List.take_append_of_le_length (by omega), List.take_of_length_le (by omega : a.length ≤ 32)]
  simp [zby, h]

def F19 : Fun
  | [.ba 32 a, .ba 32 b] => some ([], .t (.ba 32 (pairS a b)))
  | _ => none

theorem ct19 : CT [(21, ⟨[false], treeG F21⟩)] [0, 1, 2, 3, 4, 5] [(2, [⟨1, [5], [], []⟩, ⟨1, [2], [], []⟩, ⟨2, [6, 7], [0, 1], []⟩]), (3, [⟨1, [5], [], []⟩, ⟨1, [3], [], []⟩, ⟨2, [9, 10], [0, 1], []⟩])] := ⟨(.cons c21.g (.nil _))⟩

theorem c19 : ACon Try.prog 19 F19 := by
  refine aconc E_ok (rs := [.cell 4 24]) Try.func19 rfl Try.ntmps19 (by kernel_rfl) rfl (by decide) F19 (np := 2) ?_ ?_
  · intro ts h; unfold F19; split <;> first | rfl | (simp at h; done)
  intro ts H r hF hwf
  unfold F19 at hF
  split at hF <;> try (cases hF; done)
  rename_i a b
  cases hF
  have ha : a.length = 32 := hwf (.ba 32 a) (by simp)
  have hb : b.length = 32 := hwf (.ba 32 b) (by simp)
  have h1 := lay1 ha
  have h2 := lay2 ha hb
  have h3 : F21 [.by (a ++ b)] = some ([], .t (.ba 32 (pairS a b))) := if_pos (by simp; omega)
  have hab : (a ++ b).length = 64 := by simp; omega
  have hz : (a ++ zby 32).length = 64 := by simp [zby]; omega
  have ta : a.take 32 = a := List.take_of_length_le (by omega)
  have tb : b.take 32 = b := List.take_of_length_le (by omega)
  have tab : (a ++ b).take 64 = a ++ b := List.take_of_length_le (by omega)
  have hmin : Nat.min 32 64 = 32 := rfl
  repeat refine St (And.intro ha <| And.intro hb <| And.intro @zby_len <| And.intro h1 <| And.intro h2 <| And.intro hab <| And.intro hz <| And.intro ta <| And.intro tb <| And.intro tab <| And.intro h3 <| hmin) ct19 ?_
  exact AWP.ret (Fin trivial [] [])

theorem hs_drop (l : List Hs) (k : Nat) : List.drop 2 (List.map hT (l.drop k)) = (l.drop (k + 2)).map hT := by
  rw [← List.map_drop, List.drop_drop]
theorem hs_d0 (l : List Hs) (k : Nat) (h : k < l.length) : (List.map hT (l.drop k)).getD 0 default = .ba 32 (l.getD k []) := by
  rw [hs_getD (by simp; omega)]; simp [List.getD_eq_getElem?_getD, List.getElem?_drop]
theorem hs_d1 (l : List Hs) (k : Nat) (h : k + 1 < l.length) : (List.map hT (l.drop k)).getD 1 default = .ba 32 (l.getD (k + 1) []) := by
  rw [hs_getD (by simp; omega)]; simp [List.getD_eq_getElem?_getD, List.getElem?_drop]

noncomputable def F16 : Fun
  | [.sq 32 xs] => match asHs xs with
    | some l => if l.length ≤ 1000000 then some ([], .tup [.t (.sq 32 ((liftS pairS l).map hT)), .t (.bool (alikeS l))]) else none
    | none => none
  | _ => none

theorem ct16 : CT [(19, ⟨[false, false], treeG F19⟩)] [0, 2, 3, 4, 5, 13, 38] [(5, [⟨0, [5], [], []⟩, ⟨0, [16], [], []⟩, ⟨0, [0], [], []⟩, ⟨1, [18], [], []⟩, ⟨1, [19], [3], []⟩, ⟨0, [0], [], []⟩, ⟨1, [21], [], []⟩, ⟨1, [22], [6], []⟩, ⟨0, [20, 23], [3, 4, 6, 7], []⟩, ⟨0, [17, 24], [3, 4, 6, 7], []⟩, ⟨0, [25], [3, 4, 6, 7], []⟩]), (6, [⟨0, [4], [], []⟩, ⟨0, [0], [], []⟩, ⟨1, [27], [], []⟩, ⟨1, [28], [2], []⟩, ⟨0, [0], [], []⟩, ⟨1, [30], [], []⟩, ⟨1, [31], [5], []⟩, ⟨1, [29, 32], [2, 3, 5, 6], []⟩, ⟨1, [33], [2, 3, 5, 6, 7], []⟩, ⟨2, [26, 34], [2, 3, 5, 6, 7, 8], []⟩, ⟨0, [35], [2, 3, 5, 6, 7, 8, 9], []⟩]), (8, [⟨0, [4], [], []⟩, ⟨0, [0], [], []⟩, ⟨1, [40], [], []⟩, ⟨1, [41], [2], []⟩, ⟨0, [0], [], []⟩, ⟨1, [43], [], []⟩, ⟨1, [44], [5], []⟩, ⟨1, [42, 45], [2, 3, 5, 6], []⟩, ⟨1, [46], [2, 3, 5, 6, 7], []⟩, ⟨2, [39, 47], [2, 3, 5, 6, 7, 8], []⟩, ⟨0, [48], [2, 3, 5, 6, 7, 8, 9], []⟩])] := ⟨(.cons c19.g (.nil _))⟩

set_option maxRecDepth 10000 in
set_option maxHeartbeats 2000000 in
theorem c16 : ACon Try.prog 16 F16 := by
  refine aconc E_ok (rs := [.tmp 2 22, .tmp 3 4]) Try.func16 rfl Try.ntmps16 (by kernel_rfl) rfl (by decide) F16 (np := 1) ?_ ?_
  · intro ts h; unfold F16; split <;> first | rfl | (simp at h; done)
  intro ts H r hF hwf
  unfold F16 at hF
  split at hF <;> try (cases hF; done)
  rename_i xs
  split at hF <;> try (cases hF; done)
  rename_i l hl
  split at hF
  case isFalse => cases hF
  rename_i hc
  have hn := hc
  cases hF
  obtain rfl := asHs_inv hl
  obtain ⟨_, h32⟩ := hs_wf (hwf (.sq 32 (l.map hT)) (by simp))
  have hq : IntKind.i64.wrap (Int.tdiv ((l.length : Int) + 1) 2) = (((l.length + 1) / 2 : Nat) : Int) := by
    rw [Int.tdiv_eq_ediv_of_nonneg (by omega), wrap_i64 (by omega) (by omega)]; omega
  have hcap : (l.length + 1) / 2 ≤ 1000001 := by omega
  repeat refine St (And.intro hq <| hcap) ct16 ?_
  refine AWP.loop (G := { k : Nat // k % 2 = 0 ∧ k ≤ l.length }) (fun k => ⟨[(0, .t (.sq 32 ((l.drop k.1).map hT))), (4, .own 0), (5, .t (.bool (alikeS (l.take k.1))))], [.sq 32 ((liftS pairS (l.take k.1)).map hT)]⟩) (fun k => l.length - k.1) ⟨0, by omega⟩ (Wt (And.intro @List.take_zero.{0} <| And.intro @List.drop_zero.{0} <| And.intro (And.intro @liftS.eq_1 <| And.intro @liftS.eq_2 <| @liftS.eq_3) <| (And.intro @alikeS.eq_1 <| @alikeS.eq_2)) [0, 4, 5] [0]) ?_
  intro ⟨k, hk2, hk⟩
  dsimp only
  have hdl : (l.drop k).length = l.length - k := by simp
  have hll := liftS_len pairS (l.take k)
  have htl : (l.take k).length = k := by simp; omega
  rw [htl] at hll
  by_cases h1 : 1 < ((l.drop k).length : Int)
  · have hk1 : k + 1 < l.length := by omega
    have g0 := hs_d0 l k (by omega)
    have g1 := hs_d1 l k (by omega)
    have hdr := hs_drop l k
    have hls := liftS_two pairS l k hk1 hk2
    have hal := alikeS_two l k hk1 hk2
    have l0 : 0 < (l.drop k).length := by omega
    have l1 : 1 < (l.drop k).length := by omega
    have l2 : 2 ≤ (l.drop k).length := by omega
    have hup : ((liftS pairS (l.take k)).map hT).length ≤ 1000000 := by simp; omega
    generalize l.getD k [] = a at *
    generalize l.getD (k + 1) [] = b at *
    have hp : F19 [.ba 32 a, .ba 32 b] = some ([], .t (.ba 32 (pairS a b))) := rfl
    have hsn := hs_snoc (liftS pairS (l.take k)) (pairS a b)
    rw [← hls] at hsn
    cases ha : alikeS (l.take k)
    · rw [ha, Bool.false_or] at hal
      repeat refine St (And.intro h1 <| And.intro g0 <| And.intro g1 <| And.intro l0 <| And.intro l1 <| And.intro l2 <| And.intro hdr <| And.intro hp <| hup) ct16 ?_
      exact ⟨⟨k + 2, by omega, by omega⟩, (Wt (And.intro hsn <| hal) [0, 4, 5] [2]), by simp only; omega⟩
    · rw [ha, Bool.true_or] at hal
      repeat refine St (And.intro h1 <| And.intro g0 <| And.intro g1 <| And.intro l0 <| And.intro l1 <| And.intro l2 <| And.intro hdr <| And.intro hp <| hup) ct16 ?_
      exact ⟨⟨k + 2, by omega, by omega⟩, (Wt (And.intro hsn <| hal) [0, 4, 5] [2]), by simp only; omega⟩
  · by_cases he : k + 1 = l.length
    · have g0 := hs_d0 l k (by omega)
      have hls := liftS_one pairS l k he hk2
      have hal := alikeS_one l k he hk2
      have l0 : 0 < (l.drop k).length := by omega
      have heq : (((l.drop k).length : Int) == 1) = true := by rw [beq_iff_eq]; omega
      have hup : ((liftS pairS (l.take k)).map hT).length ≤ 1000000 := by simp; omega
      generalize l.getD k [] = a at *
      have hp : F19 [.ba 32 a, .ba 32 a] = some ([], .t (.ba 32 (pairS a a))) := rfl
      have hsn := hs_snoc (liftS pairS (l.take k)) (pairS a a)
      rw [← hls] at hsn
      repeat refine St (And.intro h1 <| And.intro heq <| And.intro g0 <| And.intro l0 <| And.intro hp <| hup) ct16 ?_
      exact AWP.ret (Fin (And.intro hsn <| hal) [2] [])
    · obtain rfl : k = l.length := by omega
      have heq : (((l.drop l.length).length : Int) == 1) = false := by rw [beq_eq_false_iff_ne]; omega
      rw [List.take_length]
      repeat refine St (And.intro h1 <| heq) ct16 ?_
      exact AWP.ret (Fin trivial [0] [])

theorem lift_c {l : List Hs} (h : l.length ≤ 1000000) : F16 [.sq 32 (l.map hT)] = some ([], .tup [.t (.sq 32 ((liftS pairS l).map hT)), .t (.bool (alikeS l))]) := by
  simp only [F16, asHs_map]; exact if_pos h

end Go.Fw

end

section
/- merkle: the root, branches, the way up. -/
namespace Go.Fw
open Go Go.Proofs
set_option linter.unusedVariables false
set_option linter.unusedSimpArgs false

noncomputable def F9 : Fun
  | [.sq 32 xs] => match asHs xs with
    | some l => if l.length ≤ 1000000 then some ([], .tup [.t (.ba 32 (rootW pairS l false).1), .t (.bool (rootW pairS l false).2)]) else none
    | none => none
  | _ => none

theorem ct9 : CT [(16, ⟨[false], treeG F16⟩)] [0, 2, 3, 4, 5, 6, 9, 22] [] := ⟨(.cons c16.g (.nil _))⟩

theorem c9 : ACon Try.prog 9 F9 := by
  refine aconc E_ok (rs := [.cell 2 24, .tmp 3 4]) Try.func9 rfl Try.ntmps9 (by kernel_rfl) rfl (by decide) F9 (np := 1) ?_ ?_
  · intro ts h; unfold F9; split <;> first | rfl | (simp at h; done)
  intro ts H r hF hwf
  unfold F9 at hF
  split at hF <;> try (cases hF; done)
  rename_i xs
  split at hF <;> try (cases hF; done)
  rename_i l hl
  split at hF
  case isFalse => cases hF
  rename_i hc
  have hn := hc
  cases hF
  obtain rfl := asHs_inv hl
  obtain ⟨_, h32⟩ := hs_wf (hwf (.sq 32 (l.map hT)) (by simp))
  repeat refine St trivial ct9 ?_
  refine AWP.loop (G := { p : List Hs × Bool // p.1.length ≤ 1000000 ∧ (∀ x ∈ p.1, x.length = 32) ∧ rootW pairS p.1 p.2 = rootW pairS l false }) (fun p => ⟨[(0, .t (.sq 32 (p.1.1.map hT))), (2, .ptr 0 0 []), (4, .t (.bool p.1.2))], [.bx (.t (.ba 32 (zby 32)))]⟩) (fun p => p.1.1.length) ⟨(l, false), hn, h32, rfl⟩ (Wt trivial [0, 2, 4] [0]) ?_
  intro ⟨⟨m, d⟩, hm, hm32, hr⟩
  dsimp only at hm hm32 hr ⊢
  by_cases h1 : 1 < (m.length : Int)
  · have hlift := lift_c hm
    have hll := liftS_len pairS m
    have hup := rootW_up pairS d (show 1 < m.length by omega)
    cases d
    · repeat refine St hlift ct9 ?_
      exact ⟨⟨(liftS pairS m, alikeS m), by dsimp only; omega, liftS_32, by rw [← hr, hup, Bool.false_or]⟩, (Wt trivial [0, 2, 4] [0]), by dsimp only; omega⟩
    · repeat refine St hlift ct9 ?_
      exact ⟨⟨(liftS pairS m, true), by dsimp only; omega, liftS_32, by rw [← hr, hup, Bool.true_or]⟩, (Wt trivial [0, 2, 4] [0]), by dsimp only; omega⟩
  by_cases h0 : m.length = 0
  · have he := rootW_none pairS d h0
    have h0b : ((m.length : Int) == 0) = true := by rw [beq_iff_eq]; omega
    repeat refine St (And.intro h0b <| @T.size.eq_def) ct9 ?_
    exact AWP.ret (Fin (And.intro hr.symm <| And.intro he <| (show List.replicate 32 (0 : UInt8) = zby 32 from rfl)) [] [])
  · have he := rootW_end pairS d (show m.length = 1 by omega)
    have h0b : ((m.length : Int) == 0) = false := by rw [beq_eq_false_iff_ne]; omega
    have hlt : 0 < m.length := by omega
    have hg := hs_getD hlt
    have hx := hs_at hlt hm32
    generalize m.getD 0 [] = x at *
    repeat refine St (And.intro h0b <| And.intro hlt <| And.intro hg <| And.intro @T.size.eq_def <| hx) ct9 ?_
    exact AWP.ret (Fin (And.intro hr.symm <| he) [] [])

theorem root_mc {l : List Hs} (h : l.length ≤ 1000000) : F9 [.sq 32 (l.map hT)] = some ([], .tup [.t (.ba 32 (rootW pairS l false).1), .t (.bool (rootW pairS l false).2)]) := by
  simp only [F9, asHs_map]; exact if_pos h

theorem xor1 {i : Nat} (h : i < 9223372036854775808) : abits .xor .i64 (i : Int) 1 = ((if i % 2 = 1 then i - 1 else i + 1 : Nat) : Int) := by
  have e : (2 : Int) ^ IntKind.i64.bits = 18446744073709551616 := by decide
  simp only [abits, e]
  rw [show ((i : Int) % 18446744073709551616).toNat = i by omega, show ((1 : Int) % 18446744073709551616).toNat = 1 from rfl]
  have hx : i ^^^ 1 = if i % 2 = 1 then i - 1 else i + 1 := by
    apply Nat.eq_of_testBit_eq
    intro j
    rw [Nat.testBit_xor]
    cases j with
    | zero =>
      by_cases hi : i % 2 = 1
      · rw [if_pos hi]; simp [Nat.testBit_zero, hi]; omega
      · rw [if_neg hi]; simp [Nat.testBit_zero, hi]; omega
    | succ j =>
      have h1 : Nat.testBit 1 (j + 1) = false := by simp [Nat.testBit_succ]
      rw [h1, Bool.xor_false, Nat.testBit_succ, Nat.testBit_succ]
      congr 1
      split <;> omega
  rw [hx]
  exact wrap_i64 (by omega) (by split <;> omega)
theorem and1 {i : Nat} (h : i < 9223372036854775808) : abits .and .i64 (i : Int) 1 = ((i % 2 : Nat) : Int) := by
  have e : (2 : Int) ^ IntKind.i64.bits = 18446744073709551616 := by decide
  simp only [abits, e]
  rw [show ((i : Int) % 18446744073709551616).toNat = i by omega, show ((1 : Int) % 18446744073709551616).toNat = 1 from rfl, Nat.and_one_is_mod]
  exact wrap_i64 (by omega) (by omega)
theorem half64 {i : Nat} (h : i < 9223372036854775808) : IntKind.i64.wrap (Int.tdiv (i : Int) 2) = ((i / 2 : Nat) : Int) := by
  rw [Int.tdiv_eq_ediv_of_nonneg (by omega), wrap_i64 (by omega) (by omega)]; omega
theorem shr1 (i : Nat) : Int.fdiv (i : Int) (2 ^ (min 1 IntKind.i64.bits)) = ((i / 2 : Nat) : Int) := by
  have : (2 : Int) ^ (min 1 IntKind.i64.bits) = 2 := by decide
  rw [this, Int.fdiv_eq_ediv_of_nonneg _ (by omega)]; omega

noncomputable def F12 : Fun
  | [.sq 32 xs, .int .i64 i] => match asHs xs with
    | some l => if l.length ≤ 1000000 then some ([], .tup [.t (.sq 32 ((if 0 ≤ i ∧ i < (l.length : Int) then branchW pairS l i.toNat else []).map hT)), .t (.int .i64 (if 0 ≤ i ∧ i < (l.length : Int) then 0 else 1))]) else none
    | none => none
  | _ => none

theorem ct12 : CT [(16, ⟨[false], treeG F16⟩)] [0, 1, 4, 5, 6, 7, 15, 18] [] := ⟨(.cons c16.g (.nil _))⟩

theorem c12 : ACon Try.prog 12 F12 := by
  refine aconc E_ok (rs := [.tmp 4 22, .tmp 5 29]) Try.func12 rfl Try.ntmps12 (by kernel_rfl) rfl (by decide) F12 (np := 2) ?_ ?_
  · intro ts h; unfold F12; split <;> first | rfl | (simp at h; done)
  intro ts H r hF hwf
  unfold F12 at hF
  split at hF <;> try (cases hF; done)
  rename_i xs i
  split at hF <;> try (cases hF; done)
  rename_i l hl
  split at hF
  case isFalse => cases hF
  rename_i hc
  have hn := hc
  cases hF
  obtain rfl := asHs_inv hl
  obtain ⟨_, h32⟩ := hs_wf (hwf (.sq 32 (l.map hT)) (by simp))
  by_cases h0 : i < 0
  · have hc : ¬ (0 ≤ i ∧ i < (l.length : Int)) := by omega
    repeat refine St h0 ct12 ?_
    exact AWP.ret (Fin (And.intro hc <| @List.map_nil.{0, 0}) [] [])
  by_cases h1 : (l.length : Int) ≤ i
  · have hc : ¬ (0 ≤ i ∧ i < (l.length : Int)) := by omega
    repeat refine St (And.intro h0 <| h1) ct12 ?_
    exact AWP.ret (Fin (And.intro hc <| @List.map_nil.{0, 0}) [] [])
  have hc : 0 ≤ i ∧ i < (l.length : Int) := by omega
  simp only [hc, and_self, if_true]
  obtain ⟨n, rfl⟩ : ∃ n : Nat, i = (n : Int) := ⟨i.toNat, by omega⟩
  rw [Int.toNat_natCast]
  repeat refine St (And.intro h0 <| h1) ct12 ?_
  refine AWP.weak (Wo 6 (.sq 32 [])) ?_
  refine AWP.loop (G := { p : List Hs × Nat × List Hs // p.1.length ≤ 1000000 ∧ (∀ x ∈ p.1, x.length = 32) ∧ p.2.1 < p.1.length ∧ p.2.2.length + p.1.length ≤ l.length ∧ p.2.2 ++ branchW pairS p.1 p.2.1 = branchW pairS l n }) (fun p => ⟨[(0, .t (.sq 32 (p.1.1.map hT))), (1, .t (.int .i64 (p.1.2.1 : Int))), (6, .own 0)], [.sq 32 (p.1.2.2.map hT)]⟩) (fun p => p.1.1.length) ⟨(l, n, []), hn, h32, by dsimp only; omega, by simp, by simp⟩ (Wt trivial [0, 1, 6] [0]) ?_
  intro ⟨⟨m, j, out⟩, hm, hm32, hj, hol, hr⟩
  dsimp only at hm hm32 hj hol hr ⊢
  by_cases h2 : 1 < (m.length : Int)
  · have hlift := lift_c hm
    have hll := liftS_len pairS m
    have hup := branchW_up pairS j (show 1 < m.length by omega)
    have hx := xor1 (i := j) (by omega)
    have hhalf := half64 (i := j) (by omega)
    have hwl := withS_lt hj
    have hwi : (if (m.length : Int) - 1 < ((if j % 2 = 1 then j - 1 else j + 1 : Nat) : Int) then (m.length : Int) - 1 else ((if j % 2 = 1 then j - 1 else j + 1 : Nat) : Int)) = ((withS m.length j : Nat) : Int) := by
      unfold withS; repeat' split
      all_goals omega
    have hg := hs_getD hwl
    have h32w := hs_at hwl hm32
    have hsn := hs_snoc out (m.getD (withS m.length j) [])
    have hol' : (out.map hT).length ≤ 1000000 := by simp; omega
    generalize (if j % 2 = 1 then j - 1 else j + 1) = y at *
    generalize hwe : withS m.length j = w at *
    generalize m.getD w [] = v at *
    repeat refine St (And.intro hx <| And.intro hwi <| And.intro hwl <| And.intro hg <| And.intro h32w <| And.intro hlift <| And.intro hhalf <| hol') ct12 ?_
    exact ⟨⟨(liftS pairS m, j / 2, out ++ [v]), by dsimp only; omega, liftS_32, by dsimp only; omega, by simp; omega, by rw [← hr, hup]; simp⟩, (Wt hsn [0, 1, 6] [2]), by dsimp only; omega⟩
  · have hend := branchW_end pairS j (show m.length ≤ 1 by omega)
    rw [hend, List.append_nil] at hr
    repeat refine St trivial ct12 ?_
    exact AWP.ret (Fin hr.symm [0] [])

theorem branch_mc {l : List Hs} (i : Int) (h : l.length ≤ 1000000) : F12 [.sq 32 (l.map hT), .int .i64 i] = some ([], .tup [.t (.sq 32 ((if 0 ≤ i ∧ i < (l.length : Int) then branchW pairS l i.toNat else []).map hT)), .t (.int .i64 (if 0 ≤ i ∧ i < (l.length : Int) then 0 else 1))]) := by
  simp only [F12, asHs_map]; exact if_pos h

noncomputable def F14 : Fun
  | [.ba 32 x, .int .i64 i, .sq 32 xs] => match asHs xs with
    | some l => some ([], .t (.ba 32 (climbS pairS x i.toNat l)))
    | none => none
  | _ => none

theorem ct14 : CT [(19, ⟨[false, false], treeG F19⟩)] [0, 1, 2, 3, 6, 8, 11, 12, 13, 14, 19] [] := ⟨(.cons c19.g (.nil _))⟩

theorem climbS_len (x : Hs) (i : Nat) (l : List Hs) (h : x.length = 32) : (climbS pairS x i l).length = 32 := by
  induction l generalizing x i with
  | nil => exact h
  | cons y l ih =>
    simp only [climbS]
    apply ih
    split <;> exact pairS_len _ _

set_option maxHeartbeats 1000000 in
theorem c14 : ACon Try.prog 14 F14 := by
  refine aconc E_ok (rs := [.cell 6 24]) Try.func14 rfl Try.ntmps14 (by kernel_rfl) rfl (by decide) F14 (np := 3) ?_ ?_
  · intro ts h; unfold F14; split <;> first | rfl | (simp at h; done)
  intro ts H r hF hwf
  unfold F14 at hF
  split at hF <;> try (cases hF; done)
  rename_i x i xs
  split at hF <;> try (cases hF; done)
  rename_i l hl
  cases hF
  obtain rfl := asHs_inv hl
  have hi := inK_i64 (hwf (.int .i64 i) (by simp))
  have hx32 : x.length = 32 := hwf (.ba 32 x) (by simp)
  obtain ⟨hlm, h32⟩ := hs_wf (hwf (.sq 32 (l.map hT)) (by simp))
  unfold maxLen at hlm
  obtain ⟨n, hn⟩ : ∃ n : Nat, i.toNat = n := ⟨_, rfl⟩
  have hmax : (if i < 0 then 0 else i) = (n : Int) := by split <;> omega
  have hnb : n < 9223372036854775808 := by omega
  rw [hn]
  repeat refine St hmax ct14 ?_
  refine AWP.loop (G := { p : Hs × Nat × Nat // p.1.length = 32 ∧ p.2.1 < 9223372036854775808 ∧ p.2.2 ≤ l.length ∧ climbS pairS p.1 p.2.1 (l.drop p.2.2) = climbS pairS x n l }) (fun p => ⟨[(1, .t (.int .i64 (p.1.2.1 : Int))), (3, .ptr 0 0 []), (6, .ptr 1 0 []), (11, .t (.sq 32 (l.map hT))), (12, .t (.int .i64 (l.length : Int))), (13, .t (.int .i64 (p.1.2.2 : Int)))], [.bx (.t (.ba 32 p.1.1)), .bx (.t (.ba 32 (zby 32)))]⟩) (fun p => l.length - p.1.2.2) ⟨(x, n, 0), hx32, hnb, by dsimp only; omega, by simp⟩ (Wt trivial [1, 3, 6, 11, 12, 13] [0, 1]) ?_
  intro ⟨⟨y, j, k⟩, hy, hj, hk, hr⟩
  dsimp only at hy hj hk hr ⊢
  by_cases h1 : (k : Int) < (l.length : Int)
  · have hk' : k < l.length := by omega
    have hg := hs_getD hk'
    have h32w := hs_at hk' h32
    have ha := and1 hj
    have hsh := shr1 j
    have hdr : l.drop k = l.getD k [] :: l.drop (k + 1) := by rw [List.drop_eq_getElem_cons hk']; simp [hk']
    rw [hdr] at hr
    generalize l.getD k [] = h at *
    simp only [climbS] at hr
    by_cases he : j % 2 = 0
    · rw [if_pos he] at hr
      have heb : (((j % 2 : Nat) : Int) == 0) = true := by rw [beq_iff_eq]; omega
      have hp : F19 [.ba 32 y, .ba 32 h] = some ([], .t (.ba 32 (pairS y h))) := rfl
      have hpl := pairS_len y h
      repeat refine St (And.intro h1 <| And.intro hk' <| And.intro hg <| And.intro h32w <| And.intro ha <| And.intro heb <| And.intro hsh <| And.intro hp <| And.intro hpl <| And.intro hy <| And.intro @zby_len <| @T.size.eq_def) ct14 ?_
      exact ⟨⟨(pairS y h, j / 2, k + 1), hpl, by dsimp only; omega, by dsimp only; omega, hr⟩, (Wt trivial [1, 3, 6, 11, 12, 13] [0, 1]), by dsimp only; omega⟩
    · rw [if_neg he] at hr
      have heb : (((j % 2 : Nat) : Int) == 0) = false := by rw [beq_eq_false_iff_ne]; omega
      have hp : F19 [.ba 32 h, .ba 32 y] = some ([], .t (.ba 32 (pairS h y))) := rfl
      have hpl := pairS_len h y
      repeat refine St (And.intro h1 <| And.intro hk' <| And.intro hg <| And.intro h32w <| And.intro ha <| And.intro heb <| And.intro hsh <| And.intro hp <| And.intro hpl <| And.intro hy <| And.intro @zby_len <| @T.size.eq_def) ct14 ?_
      exact ⟨⟨(pairS h y, j / 2, k + 1), hpl, by dsimp only; omega, by dsimp only; omega, hr⟩, (Wt trivial [1, 3, 6, 11, 12, 13] [0, 1]), by dsimp only; omega⟩
  · obtain rfl : k = l.length := by omega
    rw [List.drop_length] at hr
    repeat refine St (And.intro h1 <| And.intro hy <| And.intro @zby_len <| @T.size.eq_def) ct14 ?_
    exact AWP.ret (Fin (And.intro hr.symm <| (And.intro @climbS.eq_1 <| @climbS.eq_2)) [] [])

theorem climb_mc (x : Hs) (i : Int) (l : List Hs) : F14 [.ba 32 x, .int .i64 i, .sq 32 (l.map hT)] = some ([], .t (.ba 32 (climbS pairS x i.toNat l))) := by
  simp only [F14, asHs_map]

end Go.Fw

end

section
/- Chapter 7's answer: turning, padding. -/
namespace Go.Fw
open Go Go.Proofs
set_option linter.unusedVariables false
set_option linter.unusedSimpArgs false

theorem wordR (a b c d : UInt32) : ((a <<< 8 ||| b) <<< 8 ||| c) <<< 8 ||| d = a <<< 24 ||| b <<< 16 ||| c <<< 8 ||| d := by
  have h1 : ∀ x : UInt32, x <<< 8 <<< 8 = x <<< 16 := fun x => by
    rw [← UInt32.shiftLeft_add (by decide) (by decide) (by decide)]; rfl
  have h2 : ∀ x : UInt32, x <<< 16 <<< 8 = x <<< 24 := fun x => by
    rw [← UInt32.shiftLeft_add (by decide) (by decide) (by decide)]; rfl
  simp only [UInt32.shiftLeft_or, h1, h2]

def F33 : Fun
  | [.int .u32 n, .int .u64 k] => if 1 ≤ k ∧ k ≤ 31 then some ([], .t (u32T (tr (UInt32.ofNat n.toNat) k.toNat))) else none
  | _ => none

theorem ct33 : CT [] [0, 1, 4] [] := ⟨GClOk.nil _⟩

theorem c33 : ACon Try.prog 33 F33 := by
  refine aconc E_ok (rs := [.tmp 4 48]) Try.func33 rfl Try.ntmps33 (by kernel_rfl) rfl (by decide) F33 (np := 2) ?_ ?_
  · intro ts h; unfold F33; split <;> first | rfl | (simp at h; done)
  intro ts H r hF hwf
  unfold F33 at hF
  split at hF <;> try (cases hF; done)
  rename_i n k
  split at hF
  case isFalse => cases hF
  rename_i hc
  obtain ⟨h1, h2⟩ := hc
  cases hF
  have hn := u32_of (by have := hwf _ (List.mem_cons_self); simpa only [T.wf] using this : inK .u32 n)
  generalize UInt32.ofNat n.toNat = x at *
  subst hn
  obtain ⟨r, rfl⟩ : ∃ r : Nat, k = (r : Int) := ⟨k.toNat, by omega⟩
  have hk : IntKind.u64.wrap (32 - (r : Int)) = ((32 - r : Nat) : Int) := by rw [wrap_u64 (by omega) (by omega)]; omega
  have h4 := u32_shl x (32 - r) (by omega)
  have h5 := u32_shr x r (by omega)
  have e0 : ¬ (r : Int) < 0 := by omega
  have e1 : ¬ ((32 - r : Nat) : Int) < 0 := by omega
  repeat refine St (And.intro hk <| And.intro e0 <| And.intro e1 <| And.intro h4 <| And.intro h5 <| @u32_or) ct33 ?_
  exact AWP.ret (Fin (And.intro @u32T.eq_def <| @tr.eq_def) [] [])

theorem turn_c (x : UInt32) (r : Nat) (h : 1 ≤ r) (h1 : r ≤ 31) : F33 [.int .u32 (x.toNat : Int), .int .u64 (r : Int)] = some ([], .t (.int .u32 ((tr x r).toNat : Int))) := by
  simp only [F33]
  rw [if_pos ⟨by omega, by omega⟩]
  simp [u32T]
theorem turn2 (x : UInt32) : F33 [.int .u32 (x.toNat : Int), .int .u64 2] = some ([], .t (.int .u32 ((tr x 2).toNat : Int))) := turn_c x 2 (by omega) (by omega)
theorem turn6 (x : UInt32) : F33 [.int .u32 (x.toNat : Int), .int .u64 6] = some ([], .t (.int .u32 ((tr x 6).toNat : Int))) := turn_c x 6 (by omega) (by omega)
theorem turn7 (x : UInt32) : F33 [.int .u32 (x.toNat : Int), .int .u64 7] = some ([], .t (.int .u32 ((tr x 7).toNat : Int))) := turn_c x 7 (by omega) (by omega)
theorem turn11 (x : UInt32) : F33 [.int .u32 (x.toNat : Int), .int .u64 11] = some ([], .t (.int .u32 ((tr x 11).toNat : Int))) := turn_c x 11 (by omega) (by omega)
theorem turn13 (x : UInt32) : F33 [.int .u32 (x.toNat : Int), .int .u64 13] = some ([], .t (.int .u32 ((tr x 13).toNat : Int))) := turn_c x 13 (by omega) (by omega)
theorem turn17 (x : UInt32) : F33 [.int .u32 (x.toNat : Int), .int .u64 17] = some ([], .t (.int .u32 ((tr x 17).toNat : Int))) := turn_c x 17 (by omega) (by omega)
theorem turn18 (x : UInt32) : F33 [.int .u32 (x.toNat : Int), .int .u64 18] = some ([], .t (.int .u32 ((tr x 18).toNat : Int))) := turn_c x 18 (by omega) (by omega)
theorem turn19 (x : UInt32) : F33 [.int .u32 (x.toNat : Int), .int .u64 19] = some ([], .t (.int .u32 ((tr x 19).toNat : Int))) := turn_c x 19 (by omega) (by omega)
theorem turn22 (x : UInt32) : F33 [.int .u32 (x.toNat : Int), .int .u64 22] = some ([], .t (.int .u32 ((tr x 22).toNat : Int))) := turn_c x 22 (by omega) (by omega)
theorem turn25 (x : UInt32) : F33 [.int .u32 (x.toNat : Int), .int .u64 25] = some ([], .t (.int .u32 ((tr x 25).toNat : Int))) := turn_c x 25 (by omega) (by omega)

def F29 : Fun
  | [.by b] => if b.length ≤ 1000000000 then some ([.by (padS b b.length)], .own 0) else none
  | _ => none

theorem ct29 : CT [] [0, 2, 3, 4, 5, 15, 24] [] := ⟨GClOk.nil _⟩

theorem c29 : ACon Try.prog 29 F29 := by
  refine aconc E_ok (rs := [.tmp 2 42]) Try.func29 rfl Try.ntmps29 (by kernel_rfl) rfl (by decide) F29 (np := 1) ?_ ?_
  · intro ts h; unfold F29; split <;> first | rfl | (simp at h; done)
  intro ts H r hF hwf
  unfold F29 at hF
  split at hF <;> try (cases hF; done)
  rename_i r
  split at hF
  case isFalse => cases hF
  rename_i hc
  have hr := hc
  cases hF
  have e128 : ∀ l : List UInt8, (l ++ [128]).length = l.length + 1 := fun l => by simp
  repeat refine St (And.intro hr <| e128) ct29 ?_
  have hp64 : (r ++ UInt8.ofNat 128 :: repl (padK r.length) 0).length % 64 = 56 := by simp only [List.length_append, List.length_cons, repl_len, padK]; omega
  refine AWP.loop (G := { k : Nat // k ≤ padK r.length }) (fun k => ⟨[(0, .t (.by r)), (3, .own 0)], [.by (r ++ (UInt8.ofNat 128 :: repl k.1 0))]⟩) (fun k => padK r.length - k.1) ⟨0, by omega⟩ (Wt @repl_0 [0, 3] [3]) ?_
  intro ⟨k, hk⟩
  dsimp only
  obtain ⟨L, hL⟩ : ∃ L, r ++ (UInt8.ofNat 128 :: repl k (0 : UInt8)) = L := ⟨_, rfl⟩
  have hLl : L.length = r.length + 1 + k := by rw [← hL]; simp only [List.length_append, List.length_cons, repl_len]; omega
  have hnx : L ++ [UInt8.ofNat 0] = r ++ (UInt8.ofNat 128 :: repl (k + 1) 0) := by rw [← hL, ← repl_snoc]; simp
  rw [hL]
  have hrem : IntKind.i64.wrap (Int.tmod (L.length : Int) 64) = ((L.length % 64 : Nat) : Int) := by
    have : Int.tmod (L.length : Int) 64 = ((L.length % 64 : Nat) : Int) := by rw [Int.tmod_eq_emod_of_nonneg (by omega)]; omega
    rw [this, wrap_i64 (by omega) (by omega)]
  have hkK : padK r.length = (119 - r.length % 64) % 64 := rfl
  by_cases hd : L.length % 64 = 56
  · have hkk : k = padK r.length := by omega
    have hd' : (((L.length % 64 : Nat) : Int) != 56) = false := by simp; omega
    rw [← hkk] at hp64
    have hpad : padS r r.length = L ++ be8 (r.length * 8) 8 := by rw [← hL, hkk]; rfl
    have hcv : IntKind.u64.wrap (r.length : Int) = (r.length : Int) := wrap_u64 (by omega) (by omega)
    have hmul : IntKind.u64.wrap ((r.length : Int) * 8) = ((r.length * 8 : Nat) : Int) := by rw [wrap_u64 (by omega) (by omega)]; omega
    repeat refine St (And.intro hrem <| And.intro hd' <| And.intro hcv <| hmul) ct29 ?_
    refine AWP.loop (G := { j : Nat // j ≤ 8 }) (fun j => ⟨[(3, .own 0), (4, .t (.int .u64 ((r.length * 8 : Nat) : Int))), (5, .t (.int .i64 (j.1 : Int)))], [.by (L ++ be8 (r.length * 8) j.1)]⟩) (fun j => 8 - j.1) ⟨0, by omega⟩ (Wt (show be8 (r.length * 8) 0 = [] from rfl) [3, 4, 5] [0]) ?_
    intro ⟨j, hj⟩
    dsimp only
    have hbl := be8_len (r.length * 8) j
    by_cases hj8 : (j : Int) < 8
    · have hbyte := beB_eq r.length j (by omega) (by omega)
      have hm1 : IntKind.i64.wrap (8 * (j : Int)) = ((8 * j : Nat) : Int) := by rw [wrap_i64 (by omega) (by omega)]; omega
      have hm2 : IntKind.i64.wrap (56 - ((8 * j : Nat) : Int)) = ((56 - 8 * j : Nat) : Int) := by rw [wrap_i64 (by omega) (by omega)]; omega
      have hm3 : IntKind.u64.wrap ((56 - 8 * j : Nat) : Int) = ((56 - 8 * j : Nat) : Int) := wrap_u64 (by omega) (by omega)
      have hnn : ¬ ((56 - 8 * j : Nat) : Int) < 0 := by omega
      have hk8 : IntKind.i64.wrap ((j : Int) + 1) = ((j + 1 : Nat) : Int) := by rw [wrap_i64 (by omega) (by omega)]; omega
      have hsn : (L ++ be8 (r.length * 8) j) ++ [beB (r.length * 8) j] = L ++ be8 (r.length * 8) (j + 1) := by rw [List.append_assoc, be8_snoc]
      have hal : (L ++ be8 (r.length * 8) j).length ≤ 1000000300 := by simp [hbl]; omega
      obtain ⟨M, hM⟩ : ∃ M, L ++ be8 (r.length * 8) j = M := ⟨_, rfl⟩
      rw [hM] at hal hsn ⊢
      repeat refine St (And.intro hj8 <| And.intro hm1 <| And.intro hm2 <| And.intro hm3 <| And.intro hnn <| And.intro hbyte <| And.intro hk8 <| hal) ct29 ?_
      exact ⟨⟨j + 1, by omega⟩, (Wt hsn [3, 4, 5] [2]), by simp only; omega⟩
    · obtain rfl : j = 8 := by omega
      rw [← hpad]
      repeat refine St hj8 ct29 ?_
      exact AWP.ret (Fin trivial [] [0])
  · have hd' : (((L.length % 64 : Nat) : Int) != 56) = true := by simp; omega
    have hLs : L.length ≤ 1000000200 := by omega
    repeat refine St (And.intro hrem <| And.intro hd' <| hLs) ct29 ?_
    exact ⟨⟨k + 1, by omega⟩, (Wt hnx [0, 3] [2]), by simp only; omega⟩

end Go.Fw

end

section
/- Chapter 7's answer: a block. -/
namespace Go.Fw
open Go Go.Proofs
set_option linter.unusedVariables false
set_option linter.unusedSimpArgs false

/-- The first so many numbers added to. -/
def mixV (s v : S8) (i : Nat) : List T := ((s.add v).l.take i ++ v.l.drop i).map u32T
theorem mixV_len (s v : S8) : ∀ i, i ≤ 8 → (mixV s v i).length = 8
  | 0, _ => rfl | 1, _ => rfl | 2, _ => rfl | 3, _ => rfl | 4, _ => rfl | 5, _ => rfl | 6, _ => rfl | 7, _ => rfl | 8, _ => rfl
  | i + 9, h => by omega
theorem mixV_get (s v : S8) : ∀ i, i < 8 → (mixV s v i).getD i default = .int .u32 ((v.l.getD i 0).toNat : Int)
  | 0, _ => rfl | 1, _ => rfl | 2, _ => rfl | 3, _ => rfl | 4, _ => rfl | 5, _ => rfl | 6, _ => rfl | 7, _ => rfl
  | i + 8, h => by omega
theorem mixV_set0 (s v : S8) : ∀ i, i < 8 → (mixV s v i).set i (.int .u32 ((s.l.getD i 0 + v.l.getD i 0).toNat : Int)) = mixV s v (i + 1)
  | 0, _ => rfl | 1, _ => rfl | 2, _ => rfl | 3, _ => rfl | 4, _ => rfl | 5, _ => rfl | 6, _ => rfl | 7, _ => rfl
  | i + 8, h => by omega
theorem mixV_set (s v : S8) (i : Nat) (h : i < 8) : (mixV s v i).set i (.int .u32 ((v.l.getD i 0 + s.l.getD i 0).toNat : Int)) = mixV s v (i + 1) := by
  rw [UInt32.add_comm]; exact mixV_set0 s v i h
theorem mixV_0 (s v : S8) : mixV s v 0 = a8 v := rfl
theorem mixV_8 (s v : S8) : mixV s v 8 = (s.add v).l.map u32T := rfl
theorem clean_u32 (l : List UInt32) : T.cleanL (l.map u32T) = true := by
  induction l with
  | nil => rfl
  | cons x l ih => simp only [List.map_cons, T.cleanL, ih]; rfl
theorem sch_snoc (b : List UInt8) (t : Nat) : (sch b (t + 1)).map u32T = (sch b t).map u32T ++ [u32T (next b (sch b t) t)] := by simp [sch]

open Classical in
noncomputable def F30 : Fun
  | [.sq 1 hs, .sq 1 ks, .by b] => match asS8 hs with
    | some s => if ks = kS.map u32T ∧ b.length = 64 then some ([.sq 1 ((blkS s b).l.map u32T)], .own 0) else none
    | none => none
  | _ => none

theorem block_c (s : S8) {b : List UInt8} (h : b.length = 64) : F30 [.sq 1 (s.l.map u32T), .sq 1 (kS.map u32T), .by b] = some ([.sq 1 ((blkS s b).l.map u32T)], .own 0) := by
  simp only [F30, asS8_map]; rw [if_pos ⟨trivial, h⟩]

theorem ct30 : CT [(33, ⟨[false, false], treeG F33⟩)] [0, 1, 2, 6, 7, 8, 9, 10, 11, 12, 13, 14, 15, 16, 17, 18, 19, 20, 23, 27, 112, 211] [(6, (List.cons (⟨0, [7], [], []⟩ : Info) <| List.cons (⟨0, [2], [], []⟩ : Info) <| List.cons (⟨0, [8], [], []⟩ : Info) <| List.cons (⟨0, [30], [], []⟩ : Info) <| List.cons (⟨1, [29, 31], [], []⟩ : Info) <| List.cons (⟨1, [32], [4], []⟩ : Info) <| List.cons (⟨1, [33], [4, 5], []⟩ : Info) <| List.cons (⟨0, [34], [4, 5, 6], []⟩ : Info) <| List.cons (⟨0, [2], [], []⟩ : Info) <| List.cons (⟨0, [8], [], []⟩ : Info) <| List.cons (⟨0, [37], [], []⟩ : Info) <| List.cons (⟨0, [38], [], []⟩ : Info) <| List.cons (⟨1, [36, 39], [], []⟩ : Info) <| List.cons (⟨1, [40], [12], []⟩ : Info) <| List.cons (⟨1, [41], [12, 13], []⟩ : Info) <| List.cons (⟨0, [42], [12, 13, 14], []⟩ : Info) <| List.cons (⟨0, [35, 43], [4, 5, 6, 12, 13, 14], []⟩ : Info) <| List.cons (⟨0, [2], [], []⟩ : Info) <| List.cons (⟨0, [8], [], []⟩ : Info) <| List.cons (⟨0, [46], [], []⟩ : Info) <| List.cons (⟨0, [47], [], []⟩ : Info) <| List.cons (⟨1, [45, 48], [], []⟩ : Info) <| List.cons (⟨1, [49], [21], []⟩ : Info) <| List.cons (⟨1, [50], [21, 22], []⟩ : Info) <| List.cons (⟨0, [51], [21, 22, 23], []⟩ : Info) <| List.cons (⟨0, [44, 52], [4, 5, 6, 12, 13, 14, 21, 22, 23], []⟩ : Info) <| List.cons (⟨0, [2], [], []⟩ : Info) <| List.cons (⟨0, [8], [], []⟩ : Info) <| List.cons (⟨0, [55], [], []⟩ : Info) <| List.cons (⟨0, [56], [], []⟩ : Info) <| List.cons (⟨1, [54, 57], [], []⟩ : Info) <| List.cons (⟨1, [58], [30], []⟩ : Info) <| List.cons (⟨1, [59], [30, 31], []⟩ : Info) <| List.cons (⟨0, [53, 60], [4, 5, 6, 12, 13, 14, 21, 22, 23, 30, 31, 32], []⟩ : Info) <| List.cons (⟨1, [61], [4, 5, 6, 12, 13, 14, 21, 22, 23, 30, 31, 32], []⟩ : Info) <| List.cons (⟨2, [28, 62], [4, 5, 6, 12, 13, 14, 21, 22, 23, 30, 31, 32, 34], []⟩ : Info) <| List.cons (⟨0, [63], [4, 5, 6, 12, 13, 14, 21, 22, 23, 30, 31, 32, 34, 35], []⟩ : Info) <| [])), (7, [⟨0, [7], [], []⟩, ⟨0, [8], [], []⟩, ⟨0, [65], [], []⟩, ⟨1, [64, 66], [], []⟩, ⟨1, [67], [3], []⟩, ⟨0, [7], [], []⟩, ⟨0, [8], [], []⟩, ⟨0, [70], [], []⟩, ⟨1, [69, 71], [], []⟩, ⟨1, [72], [8], []⟩, ⟨0, [68], [3, 4], []⟩, ⟨0, [73], [3, 4, 8, 9], []⟩]), (10, [⟨0, [7], [], []⟩, ⟨0, [12], [], []⟩, ⟨0, [7], [], []⟩, ⟨0, [8], [], []⟩, ⟨0, [93], [], []⟩, ⟨1, [92, 94], [], []⟩, ⟨1, [95], [5], []⟩, ⟨0, [91, 96], [5, 6], []⟩, ⟨0, [11], [], []⟩, ⟨0, [97, 98], [5, 6], []⟩, ⟨0, [7], [], []⟩, ⟨0, [8], [], []⟩, ⟨0, [101], [], []⟩, ⟨1, [100, 102], [], []⟩, ⟨1, [103], [13], []⟩, ⟨0, [99, 104], [5, 6, 13, 14], []⟩, ⟨1, [105], [5, 6, 13, 14], []⟩, ⟨2, [90, 106], [5, 6, 13, 14, 16], []⟩, ⟨0, [107], [5, 6, 13, 14, 16, 17], []⟩]), (15, [⟨0, [13], [], []⟩, ⟨1, [115], [], []⟩, ⟨1, [116], [1], []⟩, ⟨0, [13], [], []⟩, ⟨1, [118], [], []⟩, ⟨1, [119], [4], []⟩, ⟨0, [13], [], []⟩, ⟨1, [121], [], []⟩, ⟨1, [122], [7], []⟩, ⟨0, [117], [1, 2], []⟩, ⟨0, [120], [1, 2, 4, 5], []⟩, ⟨0, [123], [1, 2, 4, 5, 7, 8], []⟩]), (16, (List.cons (⟨0, [13], [], []⟩ : Info) <| List.cons (⟨1, [124], [], []⟩ : Info) <| List.cons (⟨1, [125], [1], []⟩ : Info) <| List.cons (⟨0, [17], [], []⟩ : Info) <| List.cons (⟨1, [127], [], []⟩ : Info) <| List.cons (⟨0, [17], [], []⟩ : Info) <| List.cons (⟨1, [129], [4], []⟩ : Info) <| List.cons (⟨0, [128, 130], [4, 6], []⟩ : Info) <| List.cons (⟨0, [17], [], []⟩ : Info) <| List.cons (⟨1, [132], [4, 6], []⟩ : Info) <| List.cons (⟨0, [131, 133], [4, 6, 9], []⟩ : Info) <| List.cons (⟨0, [126, 134], [1, 2, 4, 6, 9], []⟩ : Info) <| List.cons (⟨0, [17], [], []⟩ : Info) <| List.cons (⟨0, [13], [], []⟩ : Info) <| List.cons (⟨1, [137], [], []⟩ : Info) <| List.cons (⟨1, [138], [14], []⟩ : Info) <| List.cons (⟨0, [136, 139], [14, 15], []⟩ : Info) <| List.cons (⟨0, [17], [], []⟩ : Info) <| List.cons (⟨0, [141], [], []⟩ : Info) <| List.cons (⟨0, [13], [], []⟩ : Info) <| List.cons (⟨1, [143], [], []⟩ : Info) <| List.cons (⟨1, [144], [20], []⟩ : Info) <| List.cons (⟨0, [142, 145], [20, 21], []⟩ : Info) <| List.cons (⟨0, [140, 146], [14, 15, 20, 21], []⟩ : Info) <| List.cons (⟨0, [135, 147], [1, 2, 4, 6, 9, 14, 15, 20, 21], []⟩ : Info) <| List.cons (⟨0, [1], [], []⟩ : Info) <| List.cons (⟨0, [14], [], []⟩ : Info) <| List.cons (⟨1, [149, 150], [], []⟩ : Info) <| List.cons (⟨1, [151], [27], []⟩ : Info) <| List.cons (⟨0, [148, 152], [1, 2, 4, 6, 9, 14, 15, 20, 21, 27, 28], []⟩ : Info) <| List.cons (⟨0, [7], [], []⟩ : Info) <| List.cons (⟨0, [14], [], []⟩ : Info) <| List.cons (⟨1, [154, 155], [], []⟩ : Info) <| List.cons (⟨1, [156], [32], []⟩ : Info) <| List.cons (⟨0, [153, 157], [1, 2, 4, 6, 9, 14, 15, 20, 21, 27, 28, 32, 33], []⟩ : Info) <| List.cons (⟨0, [158], [1, 2, 4, 6, 9, 14, 15, 20, 21, 27, 28, 32, 33], []⟩ : Info) <| [])), (17, [⟨0, [15], [], []⟩, ⟨1, [159], [], []⟩, ⟨0, [15], [], []⟩, ⟨1, [161], [1], []⟩, ⟨0, [160, 162], [1, 3], []⟩, ⟨0, [15], [], []⟩, ⟨1, [164], [1, 3], []⟩, ⟨0, [163, 165], [1, 3, 6], []⟩, ⟨0, [15], [], []⟩, ⟨0, [13], [], []⟩, ⟨1, [168], [], []⟩, ⟨1, [169], [10], []⟩, ⟨0, [167, 170], [10, 11], []⟩, ⟨0, [15], [], []⟩, ⟨0, [16], [], []⟩, ⟨0, [172, 173], [], []⟩, ⟨0, [171, 174], [10, 11], []⟩, ⟨0, [13], [], []⟩, ⟨1, [176], [], []⟩, ⟨1, [177], [18], []⟩, ⟨0, [16], [], []⟩, ⟨0, [178, 179], [18, 19], []⟩, ⟨0, [175, 180], [10, 11, 18, 19], []⟩, ⟨0, [166, 181], [1, 3, 6, 10, 11, 18, 19], []⟩, ⟨0, [182], [1, 3, 6, 10, 11, 18, 19], []⟩]), (18, [⟨0, [18], [], []⟩, ⟨0, [19], [], []⟩, ⟨0, [183, 184], [], []⟩, ⟨0, [13], [], []⟩, ⟨1, [186], [], []⟩, ⟨1, [187], [4], []⟩, ⟨0, [13], [], []⟩, ⟨1, [189], [], []⟩, ⟨1, [190], [7], []⟩, ⟨0, [13], [], []⟩, ⟨1, [192], [], []⟩, ⟨1, [193], [10], []⟩, ⟨0, [13], [], []⟩, ⟨1, [195], [], []⟩, ⟨1, [196], [13], []⟩, ⟨0, [18], [], []⟩, ⟨0, [197, 198], [13, 14], []⟩, ⟨0, [13], [], []⟩, ⟨1, [200], [], []⟩, ⟨1, [201], [18], []⟩, ⟨0, [13], [], []⟩, ⟨1, [203], [], []⟩, ⟨1, [204], [21], []⟩, ⟨0, [13], [], []⟩, ⟨1, [206], [], []⟩, ⟨1, [207], [24], []⟩, ⟨1, [185, 188, 191, 194, 199, 202, 205, 208], [4, 5, 7, 8, 10, 11, 13, 14, 18, 19, 21, 22, 24, 25], []⟩, ⟨0, [209], [4, 5, 7, 8, 10, 11, 13, 14, 18, 19, 21, 22, 24, 25, 26], []⟩]), (22, [⟨0, [13], [], []⟩, ⟨0, [20], [], []⟩, ⟨0, [13], [], []⟩, ⟨0, [20], [], []⟩, ⟨1, [216, 217], [], []⟩, ⟨1, [218], [4], []⟩, ⟨0, [0], [], []⟩, ⟨0, [20], [], []⟩, ⟨1, [220, 221], [], []⟩, ⟨1, [222], [8], []⟩, ⟨0, [219, 223], [4, 5, 8, 9], []⟩, ⟨1, [214, 215], [4, 5, 8, 9], []⟩, ⟨2, [224, 225], [4, 5, 8, 9, 11], []⟩])] := ⟨(.cons c33.g (.nil _))⟩

set_option maxRecDepth 100000 in
set_option maxHeartbeats 4000000 in
theorem c30 : ACon Try.prog 30 F30 := by
  refine aconc E_ok (rs := [.tmp 6 49]) Try.func30 rfl Try.ntmps30 (by kernel_rfl) rfl (by decide) F30 (np := 3) ?_ ?_
  · intro ts h; unfold F30; split <;> first | rfl | (simp at h; done)
  intro ts H r hF hwf
  unfold F30 at hF
  split at hF <;> try (cases hF; done)
  rename_i hs ks b
  split at hF
  case h_2 => cases hF
  rename_i s hs
  split at hF
  case isFalse => cases hF
  rename_i hc
  obtain ⟨hk, hb⟩ := hc
  cases hF
  subst hk
  obtain rfl := asS8_inv hs
  repeat refine St trivial ct30 ?_
  refine AWP.loop (G := { t : Nat // t ≤ 64 }) (fun t => ⟨[(0, .t (.sq 1 (s.l.map u32T))), (1, .t (.sq 1 (kS.map u32T))), (2, .t (.by b)), (7, .own 0), (8, .t (.int .i64 (t.1 : Int)))], [.sq 1 ((sch b t.1).map u32T)]⟩) (fun t => 64 - t.1) ⟨0, by omega⟩ (Wt (And.intro @sch.eq_1 <| @sch.eq_2) [0, 1, 2, 7, 8] [0]) ?_
  intro ⟨t, ht⟩
  dsimp only
  have hsl : (List.map u32T (sch b t)).length = t := by simp [sch_len]
  by_cases hlt : (t : Int) < 64
  case pos =>
    have hk1 : IntKind.i64.wrap ((t : Int) + 1) = ((t + 1 : Nat) : Int) := by rw [wrap_i64 (by omega) (by omega)]; omega
    have hsn := sch_snoc b t
    by_cases h16 : (t : Int) < 16
    · have m4 : IntKind.i64.wrap (4 * (t : Int)) = ((4 * t : Nat) : Int) := by rw [wrap_i64 (by omega) (by omega)]; omega
      have m41 : IntKind.i64.wrap (((4 * t : Nat) : Int) + 1) = ((4 * t + 1 : Nat) : Int) := by rw [wrap_i64 (by omega) (by omega)]; omega
      have m42 : IntKind.i64.wrap (((4 * t : Nat) : Int) + 2) = ((4 * t + 2 : Nat) : Int) := by rw [wrap_i64 (by omega) (by omega)]; omega
      have m43 : IntKind.i64.wrap (((4 * t : Nat) : Int) + 3) = ((4 * t + 3 : Nat) : Int) := by rw [wrap_i64 (by omega) (by omega)]; omega
      have l0 : 4 * t < b.length := by omega
      have l1 : 4 * t + 1 < b.length := by omega
      have l2 : 4 * t + 2 < b.length := by omega
      have l3 : 4 * t + 3 < b.length := by omega
      have s24 := fun x => u32_shl x 24 (by omega)
      have s16 := fun x => u32_shl x 16 (by omega)
      have s8 := fun x => u32_shl x 8 (by omega)
      have hw : (b.getD (4 * t) 0).toUInt32 <<< UInt32.ofNat 24 ||| (b.getD (4 * t + 1) 0).toUInt32 <<< UInt32.ofNat 16 ||| (b.getD (4 * t + 2) 0).toUInt32 <<< UInt32.ofNat 8 ||| (b.getD (4 * t + 3) 0).toUInt32 = next b (sch b t) t := by
        unfold next word
        rw [if_pos (by omega), wordR]; rfl
      repeat refine St (And.intro hlt <| And.intro h16 <| And.intro m4 <| And.intro m41 <| And.intro m42 <| And.intro m43 <| And.intro l0 <| And.intro l1 <| And.intro l2 <| And.intro l3 <| And.intro @u8.eq_def <| And.intro @u32_of_u8 <| And.intro s24 <| And.intro s16 <| And.intro s8 <| And.intro @u32_or <| And.intro hsl <| hk1) ct30 ?_
      exact ⟨⟨t + 1, by omega⟩, (Wt (And.intro hsn <| And.intro hw <| @u32T.eq_def) [0, 1, 2, 7, 8] [2]), by simp only; omega⟩
    · have g15 : ((sch b t).map u32T).getD (t - 15) default = _ := u32T_getD (by rw [sch_len]; omega)
      have g2 : ((sch b t).map u32T).getD (t - 2) default = _ := u32T_getD (by rw [sch_len]; omega)
      have g7 : ((sch b t).map u32T).getD (t - 7) default = _ := u32T_getD (by rw [sch_len]; omega)
      have g16 : ((sch b t).map u32T).getD (t - 16) default = _ := u32T_getD (by rw [sch_len]; omega)
      have m15 : IntKind.i64.wrap ((t : Int) - 15) = ((t - 15 : Nat) : Int) := by rw [wrap_i64 (by omega) (by omega)]; omega
      have m2 : IntKind.i64.wrap ((t : Int) - 2) = ((t - 2 : Nat) : Int) := by rw [wrap_i64 (by omega) (by omega)]; omega
      have m7 : IntKind.i64.wrap ((t : Int) - 7) = ((t - 7 : Nat) : Int) := by rw [wrap_i64 (by omega) (by omega)]; omega
      have m16 : IntKind.i64.wrap ((t : Int) - 16) = ((t - 16 : Nat) : Int) := by rw [wrap_i64 (by omega) (by omega)]; omega
      have l15 : t - 15 < t := by omega
      have l2 : t - 2 < t := by omega
      have l7 : t - 7 < t := by omega
      have l16 : t - 16 < t := by omega
      have i15 : ((t - 15 : Nat) : Int) < (t : Int) := by omega
      have i2 : ((t - 2 : Nat) : Int) < (t : Int) := by omega
      have i7 : ((t - 7 : Nat) : Int) < (t : Int) := by omega
      have i16 : ((t - 16 : Nat) : Int) < (t : Int) := by omega
      have r3 := fun x => u32_shr x 3 (by omega)
      have r10 := fun x => u32_shr x 10 (by omega)
      have hw : sg1 ((sch b t).getD (t - 2) 0) + (sch b t).getD (t - 7) 0 + sg0 ((sch b t).getD (t - 15) 0) + (sch b t).getD (t - 16) 0 = next b (sch b t) t := by
        unfold next
        rw [if_neg (by omega)]
        ac_rfl
      have hs0 : ∀ x, tr x 7 ^^^ tr x 18 ^^^ x >>> UInt32.ofNat 3 = sg0 x := fun x => rfl
      have hs1 : ∀ x, tr x 17 ^^^ tr x 19 ^^^ x >>> UInt32.ofNat 10 = sg1 x := fun x => rfl
      repeat refine St (And.intro hlt <| And.intro h16 <| And.intro g15 <| And.intro g2 <| And.intro g7 <| And.intro g16 <| And.intro m15 <| And.intro m2 <| And.intro m7 <| And.intro m16 <| And.intro l15 <| And.intro l2 <| And.intro l7 <| And.intro l16 <| And.intro i15 <| And.intro i2 <| And.intro i7 <| And.intro i16 <| And.intro r3 <| And.intro r10 <| And.intro @turn7 <| And.intro @turn18 <| And.intro @turn17 <| And.intro @turn19 <| And.intro @u32_xor <| And.intro @u32_add <| And.intro hs0 <| And.intro hs1 <| And.intro hsl <| hk1) ct30 ?_
      exact ⟨⟨t + 1, by omega⟩, (Wt (And.intro hsn <| And.intro hw <| @u32T.eq_def) [0, 1, 2, 7, 8] [2]), by simp only; omega⟩
  obtain rfl : t = 64 := by omega
  repeat refine St (And.intro hlt <| And.intro @a8_eq <| @a8.eq_def) ct30 ?_
  refine AWP.loop (G := { t : Nat // t ≤ 64 }) (fun t => ⟨[(0, .t (.sq 1 (s.l.map u32T))), (1, .t (.sq 1 (kS.map u32T))), (7, .own 0), (13, .own 1), (14, .t (.int .i64 (t.1 : Int)))], [.sq 1 ((sch b 64).map u32T), .sq 1 (a8 (rnds b s t.1))]⟩) (fun t => 64 - t.1) ⟨0, by omega⟩ (Wt (And.intro (And.intro @rnds.eq_1 <| @rnds.eq_2) <| And.intro @a8.eq_def <| @a8_eq) [0, 1, 7, 13, 14] [0, 2]) ?_
  intro ⟨t, ht⟩
  dsimp only
  by_cases hlt : (t : Int) < 64
  case neg =>
    obtain rfl : t = 64 := by omega
    repeat refine St hlt ct30 ?_
    refine AWP.loop (G := { i : Nat // i ≤ 8 }) (fun i => ⟨[(0, .t (.sq 1 (s.l.map u32T))), (13, .own 0), (20, .t (.int .i64 (i.1 : Int)))], [.sq 1 (mixV s (rnds b s 64) i.1)]⟩) (fun i => 8 - i.1) ⟨0, by omega⟩ (Wt @mixV_0 [0, 13, 20] [1]) ?_
    intro ⟨i, hi⟩
    dsimp only
    generalize hv : rnds b s 64 = v
    by_cases hl8 : (i : Int) < 8
    case neg =>
      obtain rfl : i = 8 := by omega
      have hfin : blkS s b = s.add v := by rw [← hv]; rfl
      repeat refine St hl8 ct30 ?_
      exact AWP.ret (Fin (And.intro @mixV_8 <| hfin) [] [0])
    have hi8 : i < 8 := by omega
    have hml := mixV_len s v i (by omega)
    have hsl : (List.map u32T s.l).length = 8 := rfl
    have g1 := mixV_get s v i hi8
    have g2 := a8_get s i hi8
    have g3 := mixV_set s v i hi8
    have hk1 : IntKind.i64.wrap ((i : Int) + 1) = ((i + 1 : Nat) : Int) := by rw [wrap_i64 (by omega) (by omega)]; omega
    repeat refine St (And.intro hl8 <| And.intro hi8 <| And.intro hml <| And.intro hsl <| And.intro g1 <| And.intro g2 <| And.intro g3 <| And.intro @u32_add <| And.intro hk1 <| @T.size.eq_def) ct30 ?_
    exact ⟨⟨i + 1, by omega⟩, (Wt trivial [0, 13, 20] [0]), by simp only; omega⟩
  have ht64 : t < 64 := by omega
  have hk1 : IntKind.i64.wrap ((t : Int) + 1) = ((t + 1 : Nat) : Int) := by rw [wrap_i64 (by omega) (by omega)]; omega
  have hkl : (List.map u32T kS).length = 64 := by simp [kS_len]
  have hwl : (List.map u32T (sch b 64)).length = 64 := by simp [sch_len]
  have hkg : (List.map u32T kS).getD t default = .int .u32 ((kS.getD t 0).toNat : Int) := u32T_getD (by rw [kS_len]; exact ht64)
  have hwg : (List.map u32T (sch b 64)).getD t default = .int .u32 (((sch b 64).getD t 0).toNat : Int) := u32T_getD (by rw [sch_len]; exact ht64)
  have hnx : rnds b s (t + 1) = rnd (rnds b s t) (kS.getD t 0) ((sch b 64).getD t 0) := rfl
  generalize rnds b s t = v at *
  generalize kS.getD t 0 = k at *
  generalize (sch b 64).getD t 0 = w at *
  repeat refine St (And.intro hlt <| And.intro @a8.eq_def <| And.intro hkl <| And.intro hwl <| And.intro hkg <| And.intro hwg <| And.intro ht64 <| And.intro hk1 <| And.intro @turn2 <| And.intro @turn6 <| And.intro @turn11 <| And.intro @turn13 <| And.intro @turn22 <| And.intro @turn25 <| And.intro @u32_xor <| And.intro @u32_and <| And.intro @u32_add <| And.intro @u32_xff <| @T.size.eq_def) ct30 ?_
  exact ⟨⟨t + 1, by omega⟩, (Wt (And.intro hnx <| And.intro @rnd.eq_def <| And.intro @t1S.eq_def <| And.intro @t2S.eq_def <| @a8.eq_def) [0, 1, 7, 13, 14] [0, 2]), by simp only; omega⟩

end Go.Fw

end

section
/- Chapter 7's answer: the hash, twice, behind a tag. -/
namespace Go.Fw
open Go Go.Proofs
set_option linter.unusedVariables false
set_option linter.unusedSimpArgs false

def F28 : Fun
  | [] => some ([.sq 1 (kS.map u32T)], .own 0)
  | _ => none

theorem ct28 : CT [] [0] [] := ⟨GClOk.nil _⟩

set_option maxRecDepth 100000 in
theorem c28 : ACon Try.prog 28 F28 := by
  refine aconc E_ok (rs := [.tmp 0 49]) Try.func28 rfl Try.ntmps28 (by kernel_rfl) rfl (by decide) F28 (np := 0) ?_ ?_
  · intro ts h; unfold F28; split <;> first | rfl | (simp at h; done)
  intro ts H r hF hwf
  unfold F28 at hF
  split at hF <;> try (cases hF; done)
  cases hF
  repeat refine St trivial ct28 ?_
  exact AWP.ret (Fin @kT_eq [] [0])

noncomputable def F24 : Fun
  | [.by b] => if b.length ≤ 1000000000 then some ([], .t (.ba 32 (shaL b))) else none
  | _ => none

theorem ct24 : CT [(28, ⟨[], treeG F28⟩), (29, ⟨[false], treeG F29⟩), (30, ⟨[false, false, false], treeG F30⟩)] [0, 2, 3, 4, 5, 6, 7, 8, 16, 29] [] := ⟨(.cons c28.g (.cons c29.g (.cons c30.g (.nil _))))⟩

theorem padS_long (b : List UInt8) : (padS b b.length).length ≤ b.length + 73 := by
  simp only [padS, List.length_append, List.length_cons, repl_len, be8_len, padK]; omega

set_option maxRecDepth 100000 in
set_option maxHeartbeats 2000000 in
theorem c24 : ACon Try.prog 24 F24 := by
  refine aconc E_ok (rs := [.cell 2 24]) Try.func24 rfl Try.ntmps24 (by kernel_rfl) rfl (by decide) F24 (np := 1) ?_ ?_
  · intro ts h; unfold F24; split <;> first | rfl | (simp at h; done)
  intro ts H r hF hwf
  unfold F24 at hF
  split at hF <;> try (cases hF; done)
  rename_i b
  split at hF
  case isFalse => cases hF
  rename_i hc
  have hb := hc
  cases hF
  have hpd : F29 [.by b] = some ([.by (padS b b.length)], .own 0) := if_pos hb
  have hpl := padS_len b b.length
  have hps := padS_long b
  have hfin : shaL b = outS (eatS h0S (padS b b.length) ((padS b b.length).length / 64)) := rfl
  obtain ⟨P, hP⟩ : ∃ P, padS b b.length = P := ⟨_, rfl⟩
  rw [hP] at hpl hfin hps hpd
  repeat refine St (And.intro hpd <| @F28.eq_def) ct24 ?_
  refine AWP.loop (G := { k : Nat // 64 * k ≤ P.length }) (fun k => ⟨[(2, .ptr 0 0 []), (3, .own 1), (4, .own 2), (5, .own 3), (6, .t (.int .i64 ((64 * k.1 : Nat) : Int)))], [.bx (.t (.ba 32 (zby 32))), .sq 1 ((eatS h0S P k.1).l.map u32T), .sq 1 (kS.map u32T), .by P]⟩) (fun k => P.length - 64 * k.1) ⟨0, by omega⟩ (Wt (And.intro (And.intro @eatS.eq_1 <| @eatS.eq_2) <| And.intro @a8_eq <| And.intro @a8.eq_def <| And.intro @h0S.eq_def <| @Nat.mul_zero) [2, 3, 4, 5, 6] [0, 1, 2, 3]) ?_
  intro ⟨k, hk⟩
  dsimp only
  have hnx : eatS h0S P (k + 1) = blkS (eatS h0S P k) ((P.drop (64 * k)).take 64) := rfl
  obtain ⟨v, hv⟩ : ∃ v, eatS h0S P k = v := ⟨_, rfl⟩
  rw [hv] at hnx ⊢
  by_cases hlt : ((64 * k : Nat) : Int) < (P.length : Int)
  case pos =>
    have h64' : 64 * k + 64 ≤ P.length := by omega
    have htl : ((P.drop (64 * k)).take 64).length = 64 := by simp; omega
    have hte : 64 * k + 64 - 64 * k = 64 := by omega
    have hbl := block_c v htl
    have hk1 : IntKind.i64.wrap (((64 * k : Nat) : Int) + 64) = ((64 * k + 64 : Nat) : Int) := by rw [wrap_i64 (by omega) (by omega)]; omega
    have hk2 : 64 * k + 64 = 64 * (k + 1) := by omega
    repeat refine St (And.intro hlt <| And.intro hk1 <| And.intro hte <| And.intro hbl <| @clean_u32) ct24 ?_
    exact ⟨⟨k + 1, by omega⟩, (Wt (And.intro hnx <| hk2) [2, 3, 4, 5, 6] [0, 4, 2, 3]), by simp only; omega⟩
  have hkk : k = P.length / 64 := by omega
  rw [← hkk, hv] at hfin
  repeat refine St hlt ct24 ?_
  refine AWP.loop (G := { p : Nat // p ≤ 32 }) (fun p => ⟨[(2, .ptr 0 0 []), (3, .own 1), (7, .ptr 2 0 []), (8, .t (.int .i64 (p.1 : Int)))], [.bx (.t (.ba 32 (zby 32))), .sq 1 (v.l.map u32T), .bx (.t (.ba 32 (outM v p.1)))]⟩) (fun p => 32 - p.1) ⟨0, by omega⟩ (Wt @outM_0 [2, 3, 7, 8] [0, 1, 4]) ?_
  intro ⟨p, hp⟩
  dsimp only
  have hol := outM_len v p
  by_cases hp32i : (p : Int) < 32
  case neg =>
    obtain rfl : p = 32 := by omega
    have ho := outM_32 v
    repeat refine St (And.intro hp32i <| And.intro @T.size.eq_def <| And.intro ho <| hol) ct24 ?_
    exact AWP.ret (Fin hfin [] [])
  have hp32 : p < 32 := by omega
  have hvl : (List.map u32T v.l).length = 8 := rfl
  have hp8 : p / 4 < 8 := by omega
  have hp8i : ((p / 4 : Nat) : Int) < 8 := by omega
  have hvg := a8_get v (p / 4) hp8
  have hq : IntKind.i64.wrap (Int.tdiv (p : Int) 4) = ((p / 4 : Nat) : Int) := by
    rw [Int.tdiv_eq_ediv_of_nonneg (by omega), wrap_i64 (by omega) (by omega)]; omega
  have hr : IntKind.i64.wrap (Int.tmod (p : Int) 4) = ((p % 4 : Nat) : Int) := by
    rw [Int.tmod_eq_emod_of_nonneg (by omega), wrap_i64 (by omega) (by omega)]; omega
  have hm8 : IntKind.i64.wrap (8 * ((p % 4 : Nat) : Int)) = ((8 * (p % 4) : Nat) : Int) := by rw [wrap_i64 (by omega) (by omega)]; omega
  have hm24 : IntKind.i64.wrap (24 - ((8 * (p % 4) : Nat) : Int)) = ((24 - 8 * (p % 4) : Nat) : Int) := by rw [wrap_i64 (by omega) (by omega)]; omega
  have hmu : IntKind.u64.wrap ((24 - 8 * (p % 4) : Nat) : Int) = ((24 - 8 * (p % 4) : Nat) : Int) := wrap_u64 (by omega) (by omega)
  have hnn : ¬ ((24 - 8 * (p % 4) : Nat) : Int) < 0 := by omega
  have hsh := u32_shr (v.l.getD (p / 4) 0) (24 - 8 * (p % 4)) (by omega)
  have hob : ((v.l.getD (p / 4) 0) >>> UInt32.ofNat (24 - 8 * (p % 4))).toUInt8 = outB v p := rfl
  have hset := outM_set v hp32
  have hof : ∀ c : UInt8, UInt8.ofNat c.toNat = c := fun c => by simp
  have hkj : IntKind.i64.wrap ((p : Int) + 1) = ((p + 1 : Nat) : Int) := by rw [wrap_i64 (by omega) (by omega)]; omega
  repeat refine St (And.intro hp32i <| And.intro hp32 <| And.intro hvl <| And.intro hp8 <| And.intro hp8i <| And.intro hvg <| And.intro hq <| And.intro hr <| And.intro hm8 <| And.intro hm24 <| And.intro hmu <| And.intro hnn <| And.intro hsh <| And.intro @u8_of_u32 <| And.intro hob <| And.intro hof <| And.intro hset <| And.intro hol <| And.intro hkj <| @T.size.eq_def) ct24 ?_
  exact ⟨⟨p + 1, by omega⟩, (Wt trivial [2, 3, 7, 8] [0, 1, 2]), by simp only; omega⟩

theorem refsum_c {b : List UInt8} (h : b.length ≤ 1000000000) : F24 [.by b] = some ([], .t (.ba 32 (shaL b))) := if_pos h

noncomputable def F22 : Fun
  | [.by b] => if b.length ≤ 1000000000 then some ([], .t (.ba 32 (shaL (shaL b)))) else none
  | _ => none

theorem ct22 : CT [(24, ⟨[false], treeG F24⟩)] [0, 2, 3] [] := ⟨(.cons c24.g (.nil _))⟩

theorem c22 : ACon Try.prog 22 F22 := by
  refine aconc E_ok (rs := [.cell 2 24]) Try.func22 rfl Try.ntmps22 (by kernel_rfl) rfl (by decide) F22 (np := 1) ?_ ?_
  · intro ts h; unfold F22; split <;> first | rfl | (simp at h; done)
  intro ts H r hF hwf
  unfold F22 at hF
  split at hF <;> try (cases hF; done)
  rename_i b
  split at hF
  case isFalse => cases hF
  rename_i hc
  have hb := hc
  cases hF
  have h1 := refsum_c hb
  have hl := shaL_len b
  have h2 : F24 [.by (shaL b)] = some ([], .t (.ba 32 (shaL (shaL b)))) := refsum_c (by omega)
  generalize shaL (shaL b) = y at *
  obtain ⟨x, hx⟩ : ∃ x, shaL b = x := ⟨_, rfl⟩
  rw [hx] at h1 hl h2
  have ht : x.take 32 = x := List.take_of_length_le (by omega)
  repeat refine St (And.intro h1 <| And.intro hl <| And.intro h2 <| ht) ct22 ?_
  exact AWP.ret (Fin trivial [] [])


end Go.Fw

end

section
/- merkle's answer. -/
namespace Go.Fw
open Go Go.Proofs
set_option linter.unusedVariables false
set_option linter.unusedSimpArgs false

def F20 : Fun
  | [.ba 32 a, .ba 32 b] => some ([], .t (.ba 32 (pairS a b)))
  | _ => none

theorem ct20 : CT [(22, ⟨[false], treeG F22⟩)] [0, 1, 2, 3, 4, 5] [] := ⟨(.cons c22.g (.nil _))⟩

theorem c20 : ACon Try.prog 20 F20 := by
  refine aconc E_ok (rs := [.cell 4 24]) Try.func20 rfl Try.ntmps20 (by kernel_rfl) rfl (by decide) F20 (np := 2) ?_ ?_
  · intro ts h; unfold F20; split <;> first | rfl | (simp at h; done)
  intro ts H r hF hwf
  unfold F20 at hF
  split at hF <;> try (cases hF; done)
  rename_i a b
  cases hF
  have ha : a.length = 32 := hwf (.ba 32 a) (by simp)
  have hb : b.length = 32 := hwf (.ba 32 b) (by simp)
  have h3 : F22 [.by (a ++ b)] = some ([], .t (.ba 32 (pairS a b))) := if_pos (by simp; omega)
  have hab : (a ++ b).length = 64 := by simp; omega
  have ta : a.take 32 = a := List.take_of_length_le (by omega)
  have tb : b.take 32 = b := List.take_of_length_le (by omega)
  repeat refine St (And.intro ha <| And.intro hb <| And.intro ta <| And.intro tb <| And.intro hab <| h3) ct20 ?_
  exact AWP.ret (Fin trivial [] [])

noncomputable def F18 : Fun
  | [.sq 32 xs, .int .i64 i] => match asHs xs with
    | some l => if 0 ≤ i ∧ i < (l.length : Int) then some ([], .t (.ba 32 (l.getD (withS l.length i.toNat) []))) else none
    | none => none
  | _ => none

theorem ct18 : CT [] [0, 1, 4, 5, 10, 16] [] := ⟨GClOk.nil _⟩

theorem c18 : ACon Try.prog 18 F18 := by
  refine aconc E_ok (rs := [.cell 4 24]) Try.func18 rfl Try.ntmps18 (by kernel_rfl) rfl (by decide) F18 (np := 2) ?_ ?_
  · intro ts h; unfold F18; split <;> first | rfl | (simp at h; done)
  intro ts H r hF hwf
  unfold F18 at hF
  split at hF <;> try (cases hF; done)
  rename_i xs i
  split at hF <;> try (cases hF; done)
  rename_i l hl
  split at hF
  case isFalse => cases hF
  rename_i hc
  obtain ⟨h0, h1⟩ := hc
  cases hF
  obtain rfl := asHs_inv hl
  obtain ⟨hlm, h32⟩ := hs_wf (hwf (.sq 32 (l.map hT)) (by simp))
  unfold maxLen at hlm
  obtain ⟨n, rfl⟩ : ∃ n : Nat, i = (n : Int) := ⟨i.toNat, by omega⟩
  rw [Int.toNat_natCast]
  have hn : n < l.length := by omega
  have hrem : IntKind.i64.wrap (Int.tmod (n : Int) 2) = ((n % 2 : Nat) : Int) := by
    rw [Int.tmod_eq_emod_of_nonneg (by omega), wrap_i64 (by omega) (by omega)]; omega
  have hwl := withS_lt hn
  have hg := hs_getD hwl
  have h32w := hs_at hwl h32
  by_cases h2 : n % 2 = 1
  · have hw : withS l.length n = n - 1 := by unfold withS; rw [if_pos h2]
    have hb : (((n % 2 : Nat) : Int) == 1) = true := by rw [beq_iff_eq]; omega
    have hm : IntKind.i64.wrap ((n : Int) - 1) = ((n - 1 : Nat) : Int) := by rw [wrap_i64 (by omega) (by omega)]; omega
    rw [hw] at hwl hg h32w
    rw [hw]
    have hlt : ¬ (l.length : Int) ≤ ((n - 1 : Nat) : Int) := by omega
    generalize l.getD (n - 1) [] = v at *
    generalize hn1 : n - 1 = n1 at *
    repeat refine St (And.intro hrem <| And.intro hb <| And.intro hm <| And.intro hlt <| And.intro hwl <| And.intro hg <| And.intro h32w <| And.intro @zby_len <| @T.size.eq_def) ct18 ?_
    exact AWP.ret (Fin trivial [] [])
    done
  have hb : (((n % 2 : Nat) : Int) == 1) = false := by rw [beq_eq_false_iff_ne]; omega
  have hm : IntKind.i64.wrap ((n : Int) + 1) = ((n + 1 : Nat) : Int) := by rw [wrap_i64 (by omega) (by omega)]; omega
  by_cases h3 : l.length ≤ n + 1
  · have hw : withS l.length n = n := by unfold withS; rw [if_neg h2, if_pos h3]
    have hlt : (l.length : Int) ≤ ((n + 1 : Nat) : Int) := by omega
    rw [hw] at hwl hg h32w
    rw [hw]
    generalize l.getD n [] = v at *
    repeat refine St (And.intro hrem <| And.intro hb <| And.intro hm <| And.intro hlt <| And.intro hwl <| And.intro hg <| And.intro h32w <| And.intro @zby_len <| @T.size.eq_def) ct18 ?_
    exact AWP.ret (Fin trivial [] [])
  · have hw : withS l.length n = n + 1 := by unfold withS; rw [if_neg h2, if_neg h3]
    have hlt : ¬ (l.length : Int) ≤ ((n + 1 : Nat) : Int) := by omega
    rw [hw] at hwl hg h32w
    rw [hw]
    generalize l.getD (n + 1) [] = v at *
    generalize n + 1 = n1 at *
    repeat refine St (And.intro hrem <| And.intro hb <| And.intro hm <| And.intro hlt <| And.intro hwl <| And.intro hg <| And.intro h32w <| And.intro @zby_len <| @T.size.eq_def) ct18 ?_
    exact AWP.ret (Fin trivial [] [])

theorem partner_c {l : List Hs} {n : Nat} (h : n < l.length) : F18 [.sq 32 (l.map hT), .int .i64 (n : Int)] = some ([], .t (.ba 32 (l.getD (withS l.length n) []))) := by
  simp only [F18, asHs_map, Int.toNat_natCast]; exact if_pos ⟨by omega, by omega⟩

noncomputable def F17 : Fun
  | [.sq 32 xs] => match asHs xs with
    | some l => if l.length ≤ 1000000 then some ([], .t (.sq 32 ((liftS pairS l).map hT))) else none
    | none => none
  | _ => none

theorem ct17 : CT [(18, ⟨[false, false], treeG F18⟩), (20, ⟨[false, false], treeG F20⟩)] [0, 2, 3, 4, 9] [(5, [⟨0, [3], [], []⟩, ⟨0, [0], [], []⟩, ⟨0, [4], [], []⟩, ⟨1, [13, 14], [], []⟩, ⟨1, [15], [3], []⟩, ⟨0, [0], [], []⟩, ⟨0, [4], [], []⟩, ⟨1, [17, 18], [], []⟩, ⟨1, [16, 19], [3, 4, 7], []⟩, ⟨1, [20], [3, 4, 7, 8], []⟩, ⟨2, [12, 21], [3, 4, 7, 8, 9], []⟩, ⟨0, [22], [3, 4, 7, 8, 9, 10], []⟩])] := ⟨(.cons c18.g (.cons c20.g (.nil _)))⟩

theorem c17 : ACon Try.prog 17 F17 := by
  refine aconc E_ok (rs := [.tmp 2 22]) Try.func17 rfl Try.ntmps17 (by kernel_rfl) rfl (by decide) F17 (np := 1) ?_ ?_
  · intro ts h; unfold F17; split <;> first | rfl | (simp at h; done)
  intro ts H r hF hwf
  unfold F17 at hF
  split at hF <;> try (cases hF; done)
  rename_i xs
  split at hF <;> try (cases hF; done)
  rename_i l hl
  split at hF
  case isFalse => cases hF
  rename_i hc
  have hn := hc
  cases hF
  obtain rfl := asHs_inv hl
  obtain ⟨_, h32⟩ := hs_wf (hwf (.sq 32 (l.map hT)) (by simp))
  repeat refine St trivial ct17 ?_
  refine AWP.loop (G := { k : Nat // k % 2 = 0 ∧ k ≤ l.length + 1 }) (fun k => ⟨[(0, .t (.sq 32 (l.map hT))), (3, .own 0), (4, .t (.int .i64 (k.1 : Int)))], [.sq 32 ((liftS pairS (l.take k.1)).map hT)]⟩) (fun k => l.length + 2 - k.1) ⟨0, by omega⟩ (Wt (And.intro @List.take_zero.{0} <| (And.intro @liftS.eq_1 <| And.intro @liftS.eq_2 <| @liftS.eq_3)) [0, 3, 4] [0]) ?_
  intro ⟨k, hk2, hk⟩
  dsimp only
  have hll := liftS_len pairS (l.take k)
  have htl : (l.take k).length ≤ 1000000 := by simp; omega
  by_cases h1 : (k : Int) < (l.length : Int)
  · have hk' : k < l.length := by omega
    have hg := hs_getD hk'
    have hpt := partner_c hk'
    have hsn : ∀ v, liftS pairS (l.take (k + 2)) = liftS pairS (l.take k) ++ [v] → (liftS pairS (l.take (k + 2))).map hT = (liftS pairS (l.take k)).map hT ++ [.ba 32 v] := fun v h => by rw [h]; exact hs_snoc _ _
    have hls : liftS pairS (l.take (k + 2)) = liftS pairS (l.take k) ++ [pairS (l.getD k []) (l.getD (withS l.length k) [])] := by
      unfold withS
      rw [if_neg (by omega)]
      by_cases h3 : l.length ≤ k + 1
      · rw [if_pos h3, List.take_of_length_le (by omega : l.length ≤ k + 2)]
        exact liftS_one pairS l k (by omega) hk2
      · rw [if_neg h3]; exact liftS_two pairS l k (by omega) hk2
    have hsn' := hsn _ hls
    have h32a := hs_at hk' h32
    have h32b := hs_at (withS_lt hk') h32
    have hup : ((liftS pairS (l.take k)).map hT).length ≤ 1000000 := by simp; omega
    generalize l.getD k [] = a at *
    generalize l.getD (withS l.length k) [] = b at *
    have hp : F20 [.ba 32 a, .ba 32 b] = some ([], .t (.ba 32 (pairS a b))) := rfl
    repeat refine St (And.intro hk' <| And.intro hg <| And.intro hpt <| And.intro hp <| And.intro h32a <| And.intro h32b <| hup) ct17 ?_
    exact ⟨⟨k + 2, by omega, by omega⟩, (Wt hsn' [0, 3, 4] [2]), by dsimp only; omega⟩
  · rw [List.take_of_length_le (by omega : l.length ≤ k)]
    repeat refine St trivial ct17 ?_
    exact AWP.ret (Fin trivial [0] [])

theorem lifted_c {l : List Hs} (h : l.length ≤ 1000000) : F17 [.sq 32 (l.map hT)] = some ([], .t (.sq 32 ((liftS pairS l).map hT))) := by
  simp only [F17, asHs_map]; exact if_pos h

noncomputable def F10 : Fun
  | [.sq 32 xs] => match asHs xs with
    | some l => if l.length ≤ 1000000 then some ([], .tup [.t (.ba 32 (rootW pairS l false).1), .t (.bool (rootW pairS l false).2)]) else none
    | none => none
  | _ => none

theorem ct10 : CT [(17, ⟨[false], treeG F17⟩)] [0, 2, 3, 4, 5, 8, 13, 33] [(6, [⟨0, [4], [], []⟩, ⟨0, [16], [], []⟩, ⟨0, [0], [], []⟩, ⟨0, [5], [], []⟩, ⟨1, [18, 19], [], []⟩, ⟨1, [20], [4], []⟩, ⟨0, [0], [], []⟩, ⟨0, [5], [], []⟩, ⟨0, [23], [], []⟩, ⟨1, [22, 24], [], []⟩, ⟨1, [25], [9], []⟩, ⟨0, [21, 26], [4, 5, 9, 10], []⟩, ⟨0, [17, 27], [4, 5, 9, 10], []⟩, ⟨0, [28], [4, 5, 9, 10], []⟩])] := ⟨(.cons c17.g (.nil _))⟩

theorem c10 : ACon Try.prog 10 F10 := by
  refine aconc E_ok (rs := [.cell 2 24, .tmp 3 4]) Try.func10 rfl Try.ntmps10 (by kernel_rfl) rfl (by decide) F10 (np := 1) ?_ ?_
  · intro ts h; unfold F10; split <;> first | rfl | (simp at h; done)
  intro ts H r hF hwf
  unfold F10 at hF
  split at hF <;> try (cases hF; done)
  rename_i xs
  split at hF <;> try (cases hF; done)
  rename_i l hl
  split at hF
  case isFalse => cases hF
  rename_i hc
  have hn := hc
  cases hF
  obtain rfl := asHs_inv hl
  obtain ⟨_, h32⟩ := hs_wf (hwf (.sq 32 (l.map hT)) (by simp))
  repeat refine St trivial ct10 ?_
  refine AWP.loop (G := { p : List Hs × Bool // p.1.length ≤ 1000000 ∧ (∀ x ∈ p.1, x.length = 32) ∧ rootW pairS p.1 p.2 = rootW pairS l false }) (fun p => ⟨[(0, .t (.sq 32 (p.1.1.map hT))), (2, .ptr 0 0 []), (4, .t (.bool p.1.2))], [.bx (.t (.ba 32 (zby 32)))]⟩) (fun p => p.1.1.length) ⟨(l, false), hn, h32, rfl⟩ (Wt trivial [0, 2, 4] [0]) ?_
  intro ⟨⟨m, d⟩, hm, hm32, hr⟩
  dsimp only at hm hm32 hr ⊢
  by_cases h1 : 1 < (m.length : Int)
  · have hlift := lifted_c hm
    have hll := liftS_len pairS m
    have hup := rootW_up pairS d (show 1 < m.length by omega)
    repeat refine St trivial ct10 ?_
    refine AWP.loop (G := { k : Nat // k % 2 = 0 ∧ k ≤ m.length }) (fun k => ⟨[(0, .t (.sq 32 (m.map hT))), (2, .ptr 0 0 []), (4, .t (.bool (d || alikeS (m.take k.1)))), (5, .t (.int .i64 (k.1 : Int)))], [.bx (.t (.ba 32 (zby 32)))]⟩) (fun k => m.length - k.1) ⟨0, by omega⟩ (Wt (And.intro @List.take_zero.{0} <| (And.intro @alikeS.eq_1 <| @alikeS.eq_2)) [0, 2, 4, 5] [0]) ?_
    intro ⟨k, hk2, hk⟩
    dsimp only
    have hw1 : IntKind.i64.wrap ((k : Int) + 1) = ((k + 1 : Nat) : Int) := by rw [wrap_i64 (by omega) (by omega)]; omega
    by_cases h2 : ((k + 1 : Nat) : Int) < (m.length : Int)
    · have hk1 : k + 1 < m.length := by omega
      have hk0 : k < m.length := by omega
      have hi0 : (k : Int) < (m.length : Int) := by omega
      have g0 := hs_getD hk0
      have g1 := hs_getD hk1
      have hal := alikeS_two m k hk1 hk2
      generalize m.getD k [] = a at *
      generalize m.getD (k + 1) [] = b at *
      have hk2m : k + 2 ≤ m.length := by omega
      generalize k + 1 = k1 at *
      cases hd : d || alikeS (m.take k)
      · have hal' : (d || alikeS (m.take (k + 2))) = (a == b) := by rw [hal, ← Bool.or_assoc, hd, Bool.false_or]
        repeat refine St (And.intro hw1 <| And.intro h2 <| And.intro hk1 <| And.intro hk0 <| And.intro hi0 <| And.intro g0 <| g1) ct10 ?_
        exact ⟨⟨k + 2, by omega, by omega⟩, (Wt hal' [0, 2, 4, 5] [0]), by dsimp only; omega⟩
      · have hal' : (d || alikeS (m.take (k + 2))) = true := by rw [hal, ← Bool.or_assoc, hd, Bool.true_or]
        repeat refine St (And.intro hw1 <| And.intro h2 <| And.intro hk1 <| And.intro hk0 <| And.intro hi0 <| And.intro g0 <| g1) ct10 ?_
        exact ⟨⟨k + 2, by omega, by omega⟩, (Wt hal' [0, 2, 4, 5] [0]), by dsimp only; omega⟩
    · have hal : alikeS (m.take k) = alikeS m := by
        by_cases hkm : k = m.length
        · rw [hkm, List.take_length]
        · exact (alikeS_one m k (by omega) hk2).symm
      rw [hal]
      repeat refine St (And.intro hw1 <| And.intro h2 <| hlift) ct10 ?_
      exact ⟨⟨(liftS pairS m, d || alikeS m), by dsimp only; omega, liftS_32, by rw [← hr, hup]⟩, (Wt trivial [0, 2, 4] [0]), by dsimp only; omega⟩
  by_cases h0 : m.length = 0
  · have he := rootW_none pairS d h0
    have h0b : ((m.length : Int) == 0) = true := by rw [beq_iff_eq]; omega
    repeat refine St (And.intro h0b <| @T.size.eq_def) ct10 ?_
    exact AWP.ret (Fin (And.intro hr.symm <| And.intro he <| (show List.replicate 32 (0 : UInt8) = zby 32 from rfl)) [] [])
  · have he := rootW_end pairS d (show m.length = 1 by omega)
    have h0b : ((m.length : Int) == 0) = false := by rw [beq_eq_false_iff_ne]; omega
    have hlt : 0 < m.length := by omega
    have hg := hs_getD hlt
    have hx := hs_at hlt hm32
    generalize m.getD 0 [] = x at *
    repeat refine St (And.intro h0b <| And.intro hlt <| And.intro hg <| And.intro @T.size.eq_def <| hx) ct10 ?_
    exact AWP.ret (Fin (And.intro hr.symm <| he) [] [])

theorem root_rc {l : List Hs} (h : l.length ≤ 1000000) : F10 [.sq 32 (l.map hT)] = some ([], .tup [.t (.ba 32 (rootW pairS l false).1), .t (.bool (rootW pairS l false).2)]) := by
  simp only [F10, asHs_map]; exact if_pos h

noncomputable def F13 : Fun
  | [.sq 32 xs, .int .i64 i] => match asHs xs with
    | some l => if l.length ≤ 1000000 then some ([], .tup [.t (.sq 32 ((if 0 ≤ i ∧ i < (l.length : Int) then branchW pairS l i.toNat else []).map hT)), .t (.int .i64 (if 0 ≤ i ∧ i < (l.length : Int) then 0 else 1))]) else none
    | none => none
  | _ => none

theorem ct13 : CT [(17, ⟨[false], treeG F17⟩), (18, ⟨[false, false], treeG F18⟩)] [0, 1, 4, 5, 6, 14, 18] [] := ⟨(.cons c17.g (.cons c18.g (.nil _)))⟩

theorem c13 : ACon Try.prog 13 F13 := by
  refine aconc E_ok (rs := [.tmp 4 22, .tmp 5 29]) Try.func13 rfl Try.ntmps13 (by kernel_rfl) rfl (by decide) F13 (np := 2) ?_ ?_
  · intro ts h; unfold F13; split <;> first | rfl | (simp at h; done)
  intro ts H r hF hwf
  unfold F13 at hF
  split at hF <;> try (cases hF; done)
  rename_i xs i
  split at hF <;> try (cases hF; done)
  rename_i l hl
  split at hF
  case isFalse => cases hF
  rename_i hc
  have hn := hc
  cases hF
  obtain rfl := asHs_inv hl
  obtain ⟨_, h32⟩ := hs_wf (hwf (.sq 32 (l.map hT)) (by simp))
  by_cases h0 : i < 0
  · have hc : ¬ (0 ≤ i ∧ i < (l.length : Int)) := by omega
    repeat refine St h0 ct13 ?_
    exact AWP.ret (Fin (And.intro hc <| @List.map_nil.{0, 0}) [] [])
  by_cases h1 : (l.length : Int) ≤ i
  · have hc : ¬ (0 ≤ i ∧ i < (l.length : Int)) := by omega
    repeat refine St (And.intro h0 <| h1) ct13 ?_
    exact AWP.ret (Fin (And.intro hc <| @List.map_nil.{0, 0}) [] [])
  have hc : 0 ≤ i ∧ i < (l.length : Int) := by omega
  simp only [hc, and_self, if_true]
  obtain ⟨n, rfl⟩ : ∃ n : Nat, i = (n : Int) := ⟨i.toNat, by omega⟩
  rw [Int.toNat_natCast]
  repeat refine St (And.intro h0 <| h1) ct13 ?_
  refine AWP.loop (G := { p : List Hs × Nat × List Hs // p.1.length ≤ 1000000 ∧ (∀ x ∈ p.1, x.length = 32) ∧ p.2.1 < p.1.length ∧ p.2.2.length + p.1.length ≤ l.length ∧ p.2.2 ++ branchW pairS p.1 p.2.1 = branchW pairS l n }) (fun p => ⟨[(0, .t (.sq 32 (p.1.1.map hT))), (1, .t (.int .i64 (p.1.2.1 : Int))), (6, .own 0)], [.sq 32 (p.1.2.2.map hT)]⟩) (fun p => p.1.1.length) ⟨(l, n, []), hn, h32, by dsimp only; omega, by simp, by simp⟩ (Wt trivial [0, 1, 6] [0]) ?_
  intro ⟨⟨m, j, out⟩, hm, hm32, hj, hol, hr⟩
  dsimp only at hm hm32 hj hol hr ⊢
  by_cases h2 : 1 < (m.length : Int)
  · have hlift := lifted_c hm
    have hll := liftS_len pairS m
    have hup := branchW_up pairS j (show 1 < m.length by omega)
    have hhalf := half64 (i := j) (by omega)
    have hpt := partner_c hj
    have h32w := hs_at (withS_lt hj) hm32
    have hsn := hs_snoc out (m.getD (withS m.length j) [])
    have hol' : (out.map hT).length ≤ 1000000 := by simp; omega
    generalize m.getD (withS m.length j) [] = v at *
    repeat refine St (And.intro hpt <| And.intro h32w <| And.intro hlift <| And.intro hhalf <| hol') ct13 ?_
    exact ⟨⟨(liftS pairS m, j / 2, out ++ [v]), by dsimp only; omega, liftS_32, by dsimp only; omega, by simp; omega, by rw [← hr, hup]; simp⟩, (Wt hsn [0, 1, 6] [2]), by dsimp only; omega⟩
  · have hend := branchW_end pairS j (show m.length ≤ 1 by omega)
    rw [hend, List.append_nil] at hr
    repeat refine St trivial ct13 ?_
    exact AWP.ret (Fin hr.symm [0] [])

theorem branch_rc {l : List Hs} (i : Int) (h : l.length ≤ 1000000) : F13 [.sq 32 (l.map hT), .int .i64 i] = some ([], .tup [.t (.sq 32 ((if 0 ≤ i ∧ i < (l.length : Int) then branchW pairS l i.toNat else []).map hT)), .t (.int .i64 (if 0 ≤ i ∧ i < (l.length : Int) then 0 else 1))]) := by
  simp only [F13, asHs_map]; exact if_pos h

noncomputable def F15 : Fun
  | [.ba 32 x, .int .i64 i, .sq 32 xs] => match asHs xs with
    | some l => some ([], .t (.ba 32 (climbS pairS x i.toNat l)))
    | none => none
  | _ => none

theorem ct15 : CT [(20, ⟨[false, false], treeG F20⟩)] [0, 1, 2, 3, 6, 7, 9, 13, 18] [(7, [⟨1, [3], [], []⟩, ⟨0, [2], [], []⟩, ⟨0, [7], [], []⟩, ⟨1, [20, 21], [], []⟩, ⟨1, [22], [3], []⟩, ⟨1, [19, 23], [0, 3, 4], []⟩, ⟨2, [3, 24], [0, 3, 4, 5], []⟩]), (8, [⟨0, [2], [], []⟩, ⟨0, [7], [], []⟩, ⟨1, [25, 26], [], []⟩, ⟨1, [27], [2], []⟩, ⟨1, [3], [], []⟩, ⟨1, [28, 29], [2, 3, 4], []⟩, ⟨2, [3, 30], [2, 3, 4, 5], []⟩])] := ⟨(.cons c20.g (.nil _))⟩

set_option maxHeartbeats 1000000 in
theorem c15 : ACon Try.prog 15 F15 := by
  refine aconc E_ok (rs := [.cell 6 24]) Try.func15 rfl Try.ntmps15 (by kernel_rfl) rfl (by decide) F15 (np := 3) ?_ ?_
  · intro ts h; unfold F15; split <;> first | rfl | (simp at h; done)
  intro ts H r hF hwf
  unfold F15 at hF
  split at hF <;> try (cases hF; done)
  rename_i x i xs
  split at hF <;> try (cases hF; done)
  rename_i l hl
  cases hF
  obtain rfl := asHs_inv hl
  have hi := inK_i64 (hwf (.int .i64 i) (by simp))
  have hx32 : x.length = 32 := hwf (.ba 32 x) (by simp)
  obtain ⟨hlm, h32⟩ := hs_wf (hwf (.sq 32 (l.map hT)) (by simp))
  unfold maxLen at hlm
  obtain ⟨n, hn⟩ : ∃ n : Nat, i.toNat = n := ⟨_, rfl⟩
  have hnb : n < 9223372036854775808 := by omega
  rw [hn]
  by_cases h0 : i < 0
  · obtain rfl : n=0 := by omega
    repeat refine St h0 ct15 ?_
    refine AWP.loop (G := { p : Hs × Nat × Nat // p.1.length = 32 ∧ p.2.1 < 9223372036854775808 ∧ p.2.2 ≤ l.length ∧ climbS pairS p.1 p.2.1 (l.drop p.2.2) = climbS pairS x _ l }) (fun p => ⟨[(1, .t (.int .i64 (p.1.2.1 : Int))), (2, .t (.sq 32 (l.map hT))), (3, .ptr 0 0 []), (6, .ptr 1 0 []), (7, .t (.int .i64 (p.1.2.2 : Int)))], [.bx (.t (.ba 32 p.1.1)), .bx (.t (.ba 32 (zby 32)))]⟩) (fun p => l.length - p.1.2.2) ⟨(x, _, 0), hx32, hnb, by dsimp only; omega, by rw [List.drop_zero]⟩ (Wt trivial [1, 2, 3, 6, 7] [0, 1]) ?_
    intro ⟨⟨y, j, k⟩, hy, hj, hk, hr⟩
    dsimp only at hy hj hk hr ⊢
    by_cases h1 : (k : Int) < (l.length : Int)
    · have hk' : k < l.length := by omega
      have hg := hs_getD hk'
      have h32w := hs_at hk' h32
      have ha : IntKind.i64.wrap (Int.tmod (j : Int) 2) = ((j % 2 : Nat) : Int) := by
        rw [Int.tmod_eq_emod_of_nonneg (by omega), wrap_i64 (by omega) (by omega)]; omega
      have hsh := half64 hj
      have hdr : l.drop k = l.getD k [] :: l.drop (k + 1) := by rw [List.drop_eq_getElem_cons hk']; simp [hk']
      rw [hdr] at hr
      generalize l.getD k [] = h at *
      simp only [climbS] at hr
      by_cases he : j % 2 = 0
      · rw [if_pos he] at hr
        have heb : (((j % 2 : Nat) : Int) == 0) = true := by rw [beq_iff_eq]; omega
        have hp : F20 [.ba 32 y, .ba 32 h] = some ([], .t (.ba 32 (pairS y h))) := rfl
        have hpl := pairS_len y h
        repeat refine St (And.intro h1 <| And.intro hk' <| And.intro hg <| And.intro h32w <| And.intro ha <| And.intro heb <| And.intro hsh <| And.intro hp <| And.intro hpl <| And.intro hy <| And.intro @zby_len <| @T.size.eq_def) ct15 ?_
        exact ⟨⟨(pairS y h, j / 2, k + 1), hpl, by dsimp only; omega, by dsimp only; omega, hr⟩, (Wt trivial [1, 2, 3, 6, 7] [0, 1]), by dsimp only; omega⟩
      · rw [if_neg he] at hr
        have heb : (((j % 2 : Nat) : Int) == 0) = false := by rw [beq_eq_false_iff_ne]; omega
        have hp : F20 [.ba 32 h, .ba 32 y] = some ([], .t (.ba 32 (pairS h y))) := rfl
        have hpl := pairS_len h y
        repeat refine St (And.intro h1 <| And.intro hk' <| And.intro hg <| And.intro h32w <| And.intro ha <| And.intro heb <| And.intro hsh <| And.intro hp <| And.intro hpl <| And.intro hy <| And.intro @zby_len <| @T.size.eq_def) ct15 ?_
        exact ⟨⟨(pairS h y, j / 2, k + 1), hpl, by dsimp only; omega, by dsimp only; omega, hr⟩, (Wt trivial [1, 2, 3, 6, 7] [0, 1]), by dsimp only; omega⟩
    · obtain rfl : k = l.length := by omega
      rw [List.drop_length] at hr
      repeat refine St (And.intro h1 <| And.intro hy <| And.intro @zby_len <| @T.size.eq_def) ct15 ?_
      exact AWP.ret (Fin (And.intro hr.symm <| (And.intro @climbS.eq_1 <| @climbS.eq_2)) [] [])
  · obtain rfl : i=(n:Int) := by omega
    repeat refine St h0 ct15 ?_
    refine AWP.loop (G := { p : Hs × Nat × Nat // p.1.length = 32 ∧ p.2.1 < 9223372036854775808 ∧ p.2.2 ≤ l.length ∧ climbS pairS p.1 p.2.1 (l.drop p.2.2) = climbS pairS x _ l }) (fun p => ⟨[(1, .t (.int .i64 (p.1.2.1 : Int))), (2, .t (.sq 32 (l.map hT))), (3, .ptr 0 0 []), (6, .ptr 1 0 []), (7, .t (.int .i64 (p.1.2.2 : Int)))], [.bx (.t (.ba 32 p.1.1)), .bx (.t (.ba 32 (zby 32)))]⟩) (fun p => l.length - p.1.2.2) ⟨(x, _, 0), hx32, hnb, by dsimp only; omega, by rw [List.drop_zero]⟩ (Wt trivial [1, 2, 3, 6, 7] [0, 1]) ?_
    intro ⟨⟨y, j, k⟩, hy, hj, hk, hr⟩
    dsimp only at hy hj hk hr ⊢
    by_cases h1 : (k : Int) < (l.length : Int)
    · have hk' : k < l.length := by omega
      have hg := hs_getD hk'
      have h32w := hs_at hk' h32
      have ha : IntKind.i64.wrap (Int.tmod (j : Int) 2) = ((j % 2 : Nat) : Int) := by
        rw [Int.tmod_eq_emod_of_nonneg (by omega), wrap_i64 (by omega) (by omega)]; omega
      have hsh := half64 hj
      have hdr : l.drop k = l.getD k [] :: l.drop (k + 1) := by rw [List.drop_eq_getElem_cons hk']; simp [hk']
      rw [hdr] at hr
      generalize l.getD k [] = h at *
      simp only [climbS] at hr
      by_cases he : j % 2 = 0
      · rw [if_pos he] at hr
        have heb : (((j % 2 : Nat) : Int) == 0) = true := by rw [beq_iff_eq]; omega
        have hp : F20 [.ba 32 y, .ba 32 h] = some ([], .t (.ba 32 (pairS y h))) := rfl
        have hpl := pairS_len y h
        repeat refine St (And.intro h1 <| And.intro hk' <| And.intro hg <| And.intro h32w <| And.intro ha <| And.intro heb <| And.intro hsh <| And.intro hp <| And.intro hpl <| And.intro hy <| And.intro @zby_len <| @T.size.eq_def) ct15 ?_
        exact ⟨⟨(pairS y h, j / 2, k + 1), hpl, by dsimp only; omega, by dsimp only; omega, hr⟩, (Wt trivial [1, 2, 3, 6, 7] [0, 1]), by dsimp only; omega⟩
      · rw [if_neg he] at hr
        have heb : (((j % 2 : Nat) : Int) == 0) = false := by rw [beq_eq_false_iff_ne]; omega
        have hp : F20 [.ba 32 h, .ba 32 y] = some ([], .t (.ba 32 (pairS h y))) := rfl
        have hpl := pairS_len h y
        repeat refine St (And.intro h1 <| And.intro hk' <| And.intro hg <| And.intro h32w <| And.intro ha <| And.intro heb <| And.intro hsh <| And.intro hp <| And.intro hpl <| And.intro hy <| And.intro @zby_len <| @T.size.eq_def) ct15 ?_
        exact ⟨⟨(pairS h y, j / 2, k + 1), hpl, by dsimp only; omega, by dsimp only; omega, hr⟩, (Wt trivial [1, 2, 3, 6, 7] [0, 1]), by dsimp only; omega⟩
    · obtain rfl : k = l.length := by omega
      rw [List.drop_length] at hr
      repeat refine St (And.intro h1 <| And.intro hy <| And.intro @zby_len <| @T.size.eq_def) ct15 ?_
      exact AWP.ret (Fin (And.intro hr.symm <| (And.intro @climbS.eq_1 <| @climbS.eq_2)) [] [])

theorem climb_rc (x : Hs) (i : Int) (l : List Hs) : F15 [.ba 32 x, .int .i64 i, .sq 32 (l.map hT)] = some ([], .t (.ba 32 (climbS pairS x i.toNat l))) := by
  simp only [F15, asHs_map]

noncomputable def F11 : Fun
  | [.sq 32 xs, .sq 32 ys] => match asHs xs, asHs ys with
    | some l, some k => some ([], .t (.bool (l == k)))
    | _, _ => none
  | _ => none

theorem ct11 : CT [] [0, 1, 4, 5, 10, 14, 25] [(6, [⟨0, [0], [], []⟩, ⟨0, [5], [], []⟩, ⟨1, [17, 18], [], []⟩, ⟨1, [19], [2], []⟩, ⟨0, [1], [], []⟩, ⟨0, [5], [], []⟩, ⟨1, [21, 22], [], []⟩, ⟨1, [23], [6], []⟩, ⟨0, [20, 24], [2, 3, 6, 7], []⟩])] := ⟨GClOk.nil _⟩

theorem c11 : ACon Try.prog 11 F11 := by
  refine aconc E_ok (rs := [.tmp 4 4]) Try.func11 rfl Try.ntmps11 (by kernel_rfl) rfl (by decide) F11 (np := 2) ?_ ?_
  · intro ts h; unfold F11; split <;> first | rfl | (simp at h; done)
  intro ts H r hF hwf
  unfold F11 at hF
  split at hF <;> try (cases hF; done)
  rename_i xs ys
  split at hF <;> try (cases hF; done)
  rename_i l m hl hm
  cases hF
  obtain rfl := asHs_inv hl
  obtain rfl := asHs_inv hm
  obtain ⟨hg, _⟩ := hs_wf (hwf (.sq 32 (l.map hT)) (by simp))
  unfold maxLen at hg
  have key : ∀ k, k < l.length → l.take (k + 1) = l.take k ++ [l.getD k []] := fun k h => take1 l k h
  by_cases hlen : l.length = m.length
  case neg =>
    have hb : ((l.length : Int) != (m.length : Int)) = true := by simp; omega
    have hne : (l == m) = false := by simp; intro h; exact hlen (by rw [h])
    repeat refine St hb ct11 ?_
    exact AWP.ret (Fin hne [] [])
  have hb : ((l.length : Int) != (m.length : Int)) = false := by simp; omega
  repeat refine St hb ct11 ?_
  refine AWP.loop (G := { k : Nat // k ≤ l.length ∧ l.take k = m.take k }) (fun k => ⟨[(0, .t (.sq 32 (l.map hT))), (1, .t (.sq 32 (m.map hT))), (5, .t (.int .i64 (k.1 : Int)))], []⟩)
    (fun k => l.length - k.1) ⟨0, by simp⟩ (Wt trivial [0, 1, 5] []) ?_
  intro ⟨k, hk, heq⟩
  dsimp only
  by_cases hlt : (k : Int) < (l.length : Int)
  · have hlt' : k < l.length := by omega
    have hlt2 : k < m.length := by omega
    have hget := hs_getD hlt'
    have hget2 := hs_getD hlt2
    by_cases he : l.getD k [] = m.getD k []
    · have hbe : (m.getD k [] == m.getD k []) = true := beq_self_eq_true _
      rw [he] at hget
      repeat refine St (And.intro hlt' <| And.intro hlt2 <| And.intro hget <| And.intro hget2 <| hbe) ct11 ?_
      exact ⟨⟨k + 1, by omega, by rw [take1 l k hlt', take1 m k hlt2, heq, he]⟩, (Wt trivial [0, 1, 5] []), by simp only; omega⟩
    · have hbe : (l.getD k [] == m.getD k []) = false := by simpa using he
      have hne : (l == m) = false := by simp only [beq_eq_false_iff_ne]; intro h; exact he (by rw [h])
      repeat refine St (And.intro hlt' <| And.intro hlt2 <| And.intro hget <| And.intro hget2 <| hbe) ct11 ?_
      exact AWP.ret (Fin hne [] [])
  · obtain rfl : k = l.length := by omega
    have hlm : l = m := by rw [List.take_length, hlen, List.take_length] at heq; exact heq
    have hne : (l == m) = true := by rw [hlm]; exact beq_self_eq_true _
    repeat refine St trivial ct11 ?_
    exact AWP.ret (Fin hne [] [])

theorem same_c (l m : List Hs) : F11 [.sq 32 (l.map hT), .sq 32 (m.map hT)] = some ([], .t (.bool (l == m))) := by
  simp only [F11, asHs_map]

end Go.Fw

end

section
/- Chapter 8: the laws, their code walked. -/
namespace Go.Fw
open Go Go.Proofs
set_option linter.unusedVariables false
set_option linter.unusedSimpArgs false

def F8 : Fun
  | [] => some ([], .t (.bool true))
  | _ => none

theorem ct8 : CT [(9, ⟨[false], treeG F9⟩), (12, ⟨[false, false], treeG F12⟩), (14, ⟨[false, false, false], treeG F14⟩)] [0, 1, 2, 3, 5, 7] [(5, [⟨1, [2], [], []⟩, ⟨1, [1], [], []⟩, ⟨0, [26, 27], [0, 1], []⟩, ⟨0, [28], [0, 1], []⟩, ⟨0, [3], [0, 1], []⟩, ⟨0, [30], [0, 1], []⟩, ⟨0, [29, 31], [0, 1], []⟩, ⟨0, [32], [0, 1], []⟩, ⟨0, [5], [0, 1], []⟩, ⟨0, [33, 34], [0, 1], []⟩, ⟨0, [35], [0, 1], []⟩, ⟨0, [7], [0, 1], []⟩, ⟨0, [37], [0, 1], []⟩, ⟨0, [36, 38], [0, 1], []⟩, ⟨0, [39], [0, 1], []⟩, ⟨1, [1], [0, 1], []⟩, ⟨1, [41], [0, 1, 15], []⟩, ⟨1, [1], [0, 1], []⟩, ⟨0, [42, 43], [0, 1, 15, 16, 17], []⟩, ⟨0, [40, 44], [0, 1, 15, 16, 17], []⟩, ⟨0, [45], [0, 1, 15, 16, 17], []⟩])] := ⟨(.cons c9.g (.cons c12.g (.cons c14.g (.nil _))))⟩

def oneH : Hs := 1 :: zby 31
theorem oneH_len : oneH.length = 32 := rfl
theorem root1 (a : Hs) : rootW pairS [a] false = (a, false) := rootW_end pairS false rfl
theorem root2 (a : Hs) : (rootW pairS [a, a] false).2 = true := even_alike pairS (by simp) (by simp) rfl

set_option maxRecDepth 10000 in
theorem c8 : ACon Try.prog 8 F8 := by
  refine aconc E_ok (rs := [.tmp 0 4]) Try.func8 rfl Try.ntmps8 (by kernel_rfl) rfl (by decide) F8 (np := 0) ?_ ?_
  · intro ts h; unfold F8; split <;> first | rfl | (simp at h; done)
  intro ts H r hF hwf
  unfold F8 at hF
  split at hF <;> try (cases hF; done)
  cases hF
  have hb : ∀ (l : List UInt8), (UInt8.ofNat 1 :: l) = 1 :: l := fun l => rfl
  have h1 := root_mc (l := [oneH]) (by simp)
  have h2 := root_mc (l := [oneH, oneH]) (by simp)
  rw [root1] at h1
  rw [root2] at h2
  have h3 := branch_mc (l := []) 0 (by simp)
  have h4 := climb_mc oneH 0 []
  simp only [List.map_cons, List.map_nil] at h1 h2 h3 h4
  rw [if_neg (by simp), if_neg (by simp)] at h3
  have hc : climbS pairS oneH (Int.toNat 0) [] = oneH := rfl
  rw [hc] at h4
  have hol := oneH_len
  have hset : (zby 32).set 0 (UInt8.ofNat 1) = oneH := rfl
  generalize (rootW pairS [oneH, oneH] false).1 = r2 at *
  generalize oneH = o at *
  repeat refine St (And.intro h1 <| And.intro h2 <| And.intro h3 <| And.intro h4 <| And.intro hol <| And.intro hset <| And.intro @zby_len <| And.intro @T.size.eq_def <| @List.map_nil.{0, 0}) ct8 ?_
  exact AWP.ret (Fin trivial [] [])

noncomputable def F3 : Fun
  | [.sq 32 xs] => match asHs xs with
    | some l => some ([], .t (.bool true))
    | none => none
  | _ => none

theorem ct3 : CT [(8, ⟨[], treeG F8⟩), (9, ⟨[false], treeG F9⟩), (10, ⟨[false], treeG F10⟩), (11, ⟨[false, false], treeG F11⟩)] [0, 2, 3, 4, 5, 6, 7, 10] [] := ⟨(.cons c8.g (.cons c9.g (.cons c10.g (.cons c11.g (.nil _)))))⟩

theorem c3 : ACon Try.prog 3 F3 := by
  refine aconc E_ok (rs := [.tmp 2 4]) Try.func3 rfl Try.ntmps3 (by kernel_rfl) rfl (by decide) F3 (np := 1) ?_ ?_
  · intro ts h; unfold F3; split <;> first | rfl | (simp at h; done)
  intro ts H r hF hwf
  unfold F3 at hF
  split at hF <;> try (cases hF; done)
  rename_i xs
  split at hF <;> try (cases hF; done)
  rename_i l hl
  cases hF
  obtain rfl := asHs_inv hl
  by_cases hn : 40 < (l.length : Int)
  · repeat refine St (And.intro hn <| @F8.eq_def) ct3 ?_
    exact AWP.ret (Fin trivial [] [])
  have h1 := root_mc (l := l) (by omega)
  have h2 := root_rc (l := l) (by omega)
  have h3 := same_c l l
  have hb : (l == l) = true := beq_self_eq_true _
  have h40 : (l.map hT).length ≤ 40 := by simp; omega
  rw [hb] at h3
  obtain ⟨_, h32⟩ := hs_wf (hwf (.sq 32 (l.map hT)) (by simp))
  generalize rootW pairS l false = R at *
  obtain ⟨r, d⟩ := R
  have hbd : (d == d) = true := by cases d <;> rfl
  dsimp only at h1 h2
  repeat refine St (And.intro hn <| And.intro h1 <| And.intro h2 <| And.intro h3 <| And.intro h40 <| And.intro hbd <| @F8.eq_def) ct3 ?_
  exact AWP.ret (Fin trivial [] [])

noncomputable def F4 : Fun
  | [.sq 32 xs, .int .i64 i] => match asHs xs with
    | some l => some ([], .t (.bool true))
    | none => none
  | _ => none

theorem ct4 : CT [(8, ⟨[], treeG F8⟩), (11, ⟨[false, false], treeG F11⟩), (12, ⟨[false, false], treeG F12⟩), (13, ⟨[false, false], treeG F13⟩)] [0, 1, 4, 5, 6, 7, 8, 11] [] := ⟨(.cons c8.g (.cons c11.g (.cons c12.g (.cons c13.g (.nil _)))))⟩

theorem c4 : ACon Try.prog 4 F4 := by
  refine aconc E_ok (rs := [.tmp 4 4]) Try.func4 rfl Try.ntmps4 (by kernel_rfl) rfl (by decide) F4 (np := 2) ?_ ?_
  · intro ts h; unfold F4; split <;> first | rfl | (simp at h; done)
  intro ts H r hF hwf
  unfold F4 at hF
  split at hF <;> try (cases hF; done)
  rename_i xs i
  split at hF <;> try (cases hF; done)
  rename_i l hl
  cases hF
  obtain rfl := asHs_inv hl
  by_cases hn : 40 < (l.length : Int)
  · repeat refine St (And.intro hn <| @F8.eq_def) ct4 ?_
    exact AWP.ret (Fin trivial [] [])
  have h1 := branch_mc (l := l) i (by omega)
  have h2 := branch_rc (l := l) i (by omega)
  generalize (if 0 ≤ i ∧ i < (l.length : Int) then branchW pairS l i.toNat else []) = b at *
  generalize (if 0 ≤ i ∧ i < (l.length : Int) then (0 : Int) else 1) = e at *
  have h3 := same_c b b
  have hb : (b == b) = true := beq_self_eq_true _
  have he : (e == e) = true := beq_self_eq_true _
  rw [hb] at h3
  repeat refine St (And.intro hn <| And.intro h1 <| And.intro h2 <| And.intro h3 <| And.intro he <| @F8.eq_def) ct4 ?_
  exact AWP.ret (Fin trivial [] [])

noncomputable def F5 : Fun
  | [.ba 32 x, .int .i64 i, .sq 32 xs] => match asHs xs with
    | some l => some ([], .t (.bool true))
    | none => none
  | _ => none

theorem ct5 : CT [(8, ⟨[], treeG F8⟩), (14, ⟨[false, false, false], treeG F14⟩), (15, ⟨[false, false, false], treeG F15⟩)] [0, 1, 2, 3, 6, 9] [(3, [⟨1, [], [], []⟩, ⟨0, [11], [0], []⟩, ⟨1, [3], [0], []⟩, ⟨0, [1], [0], []⟩, ⟨0, [2], [0], []⟩, ⟨1, [13, 14, 15], [0, 2], []⟩, ⟨1, [3], [0], []⟩, ⟨0, [1], [0], []⟩, ⟨0, [2], [0], []⟩, ⟨1, [17, 18, 19], [0, 2, 5, 6], []⟩, ⟨0, [16, 20], [0, 2, 5, 6, 9], []⟩, ⟨0, [12, 21], [0, 2, 5, 6, 9], []⟩, ⟨0, [22], [0, 2, 5, 6, 9], []⟩])] := ⟨(.cons c8.g (.cons c14.g (.cons c15.g (.nil _))))⟩

theorem c5 : ACon Try.prog 5 F5 := by
  refine aconc E_ok (rs := [.tmp 6 4]) Try.func5 rfl Try.ntmps5 (by kernel_rfl) rfl (by decide) F5 (np := 3) ?_ ?_
  · intro ts h; unfold F5; split <;> first | rfl | (simp at h; done)
  intro ts H r hF hwf
  unfold F5 at hF
  split at hF <;> try (cases hF; done)
  rename_i x i xs
  split at hF <;> try (cases hF; done)
  rename_i l hl
  cases hF
  obtain rfl := asHs_inv hl
  have hx : x.length = 32 := hwf (.ba 32 x) (by simp)
  by_cases hn : 40 < (l.length : Int)
  · repeat refine St (And.intro hn <| @F8.eq_def) ct5 ?_
    exact AWP.ret (Fin trivial [] [])
  have h1 := climb_mc x i l
  have h2 := climb_rc x i l
  generalize climbS pairS x i.toNat l = y at *
  repeat refine St (And.intro hn <| And.intro h1 <| And.intro h2 <| And.intro hx <| @F8.eq_def) ct5 ?_
  exact AWP.ret (Fin trivial [] [])

noncomputable def F6 : Fun
  | [.sq 32 xs] => match asHs xs with
    | some l => some ([], .t (.bool true))
    | none => none
  | _ => none

theorem ct6 : CT [(8, ⟨[], treeG F8⟩), (9, ⟨[false], treeG F9⟩), (12, ⟨[false, false], treeG F12⟩), (14, ⟨[false, false, false], treeG F14⟩)] [0, 2, 3, 5, 6, 7, 8, 9, 12, 22, 31, 58] [(13, [⟨0, [9], [], []⟩, ⟨0, [40], [], []⟩, ⟨0, [41], [], []⟩, ⟨0, [8], [], []⟩, ⟨1, [43], [], []⟩, ⟨0, [5], [], []⟩, ⟨0, [44, 45], [4], []⟩, ⟨0, [42, 46], [4], []⟩, ⟨0, [47], [4], []⟩, ⟨0, [0], [4], []⟩, ⟨0, [7], [4], []⟩, ⟨1, [49, 50], [4], []⟩, ⟨1, [51], [4, 11], []⟩, ⟨0, [7], [4], []⟩, ⟨0, [8], [4], []⟩, ⟨1, [52, 53, 54], [4, 11, 12], []⟩, ⟨1, [3], [4], []⟩, ⟨0, [55, 56], [4, 11, 12, 15, 16], []⟩, ⟨0, [48, 57], [4, 11, 12, 15, 16], []⟩])] := ⟨(.cons c8.g (.cons c9.g (.cons c12.g (.cons c14.g (.nil _)))))⟩

set_option maxHeartbeats 1000000 in
theorem c6 : ACon Try.prog 6 F6 := by
  refine aconc E_ok (rs := [.tmp 2 4]) Try.func6 rfl Try.ntmps6 (by kernel_rfl) rfl (by decide) F6 (np := 1) ?_ ?_
  · intro ts h; unfold F6; split <;> first | rfl | (simp at h; done)
  intro ts H r hF hwf
  unfold F6 at hF
  split at hF <;> try (cases hF; done)
  rename_i xs
  split at hF <;> try (cases hF; done)
  rename_i l hl
  cases hF
  obtain rfl := asHs_inv hl
  obtain ⟨_, h32⟩ := hs_wf (hwf (.sq 32 (l.map hT)) (by simp))
  by_cases hn : 40 < (l.length : Int)
  · repeat refine St (And.intro hn <| @F8.eq_def) ct6 ?_
    exact AWP.ret (Fin trivial [] [])
  have h1 := root_mc (l := l) (by omega)
  have hup : ∀ i, i < l.length → climbS pairS (l.getD i []) i (branchW pairS l i) = (rootW pairS l false).1 := fun i hi => climb_root pairS l.length l i false (Nat.le_refl _) hi
  have hbl := fun i => branchW_len pairS l.length l i (Nat.le_refl _)
  have hr32 : (rootW pairS l false).1.length = 32 ∨ True := .inr trivial
  generalize rootW pairS l false = R at *
  obtain ⟨r, d⟩ := R
  dsimp only at h1 hup
  have hlift : liftsN l.length = 0 + liftsN l.length := by omega
  repeat refine St (And.intro hn <| h1) ct6 ?_
  refine AWP.loop (G := { p : Nat × Nat // p.1 ≤ 40 ∧ p.2 ≤ 40 ∧ p.2 + liftsN p.1 = liftsN l.length ∧ p.2 + p.1 ≤ 41 + l.length }) (fun p => ⟨[(0, .t (.sq 32 (l.map hT))), (3, .ptr 0 0 []), (5, .t (.int .i64 (p.1.2 : Int))), (6, .t (.int .i64 (p.1.1 : Int)))], [.bx (.t (.ba 32 r))]⟩) (fun p => p.1.1) ⟨(l.length, 0), by dsimp only; omega, by dsimp only; omega, by dsimp only; omega, by dsimp only; omega⟩ (Wt trivial [0, 3, 5, 6] [0]) ?_
  intro ⟨⟨n, k⟩, hn40, hk40, hk, hs⟩
  dsimp only at hn40 hk40 hk hs ⊢
  by_cases h2 : 1 < (n : Int)
  · have hln := liftsN_up (show 1 < n by omega)
    have hq : IntKind.i64.wrap (Int.tdiv ((n : Int) + 1) 2) = (((n + 1) / 2 : Nat) : Int) := by
      rw [Int.tdiv_eq_ediv_of_nonneg (by omega), wrap_i64 (by omega) (by omega)]; omega
    have hk39 : k + 1 ≤ 40 := by
      have : ∀ m ≤ 40, liftsN m ≤ 6 := by
        intro m hm
        have e1 : ∀ x, x ≤ 1 → liftsN x ≤ 0 := fun x hx => by rw [liftsN_end hx]; exact Nat.le_refl _
        have up : ∀ a b c, (∀ x, x ≤ a → liftsN x ≤ c) → b ≤ 2 * a → (∀ x, x ≤ b → liftsN x ≤ c + 1) := fun a b c h hb x hx => by
          by_cases hx1 : 1 < x
          · rw [liftsN_up hx1]; have := h ((x + 1) / 2) (by omega); omega
          · rw [liftsN_end (by omega)]; omega
        exact up 20 40 5 (up 10 20 4 (up 5 10 3 (up 3 5 2 (up 2 3 1 (up 1 2 0 e1 (by omega)) (by omega)) (by omega)) (by omega)) (by omega)) (by omega) m hm
      have := this l.length (by omega)
      omega
    repeat refine St hq ct6 ?_
    exact ⟨⟨((n + 1) / 2, k + 1), by dsimp only; omega, hk39, by dsimp only; omega, by dsimp only; omega⟩, (Wt trivial [0, 3, 5, 6] [0]), by dsimp only; omega⟩
  have hkl : k = liftsN l.length := by rw [liftsN_end (by omega)] at hk; omega
  repeat refine St trivial ct6 ?_
  refine AWP.loop (G := { i : Nat // i ≤ l.length }) (fun i => ⟨[(0, .t (.sq 32 (l.map hT))), (3, .ptr 0 0 []), (5, .t (.int .i64 (k : Int))), (7, .t (.int .i64 (i.1 : Int)))], [.bx (.t (.ba 32 r))]⟩) (fun i => l.length - i.1) ⟨0, by omega⟩ (Wt trivial [0, 3, 5, 7] [0]) ?_
  intro ⟨i, hi⟩
  dsimp only
  by_cases h3 : (i : Int) < (l.length : Int)
  · have hi' : i < l.length := by omega
    have hg := hs_getD hi'
    have hx32 := hs_at hi' h32
    have hb := branch_mc (l := l) (i : Int) (by omega)
    rw [if_pos ⟨by omega, h3⟩, if_pos ⟨by omega, h3⟩, Int.toNat_natCast] at hb
    have hc := climb_mc (l.getD i []) (i : Int) (branchW pairS l i)
    rw [Int.toNat_natCast, hup i hi'] at hc
    have hbl' := hbl i
    rw [← hkl] at hbl'
    generalize l.getD i [] = x at *
    generalize branchW pairS l i = B at *
    have hne : ((B.length : Int) != (k : Int)) = false := by rw [hbl']; simp
    repeat refine St (And.intro hi' <| And.intro hg <| And.intro hx32 <| And.intro hb <| And.intro hc <| hne) ct6 ?_
    exact ⟨⟨i + 1, by omega⟩, (Wt trivial [0, 3, 5, 7] [0]), by dsimp only; omega⟩
  · repeat refine St @F8.eq_def ct6 ?_
    exact AWP.ret (Fin trivial [] [])

theorem ba32_of {x : T} (h : (Sh.ba 32).has x) : ∃ l, x = .ba 32 l := by
  cases x <;> simp only [Sh.has] at h
  rename_i n l
  obtain ⟨rfl⟩ := h
  exact ⟨l, rfl⟩

abbrev hsT (l : List Hs) : T := .sq 32 (l.map hT)
def unBa : T → Hs
  | .ba _ l => l
  | _ => []
theorem hs_of {x : T} (h : (Sh.sq 32 (Sh.ba 32)).has x) : ∃ l, x = hsT l := by
  cases x <;> simp only [Sh.has] at h
  rename_i sz xs
  obtain ⟨rfl, h⟩ := h
  refine ⟨xs.map unBa, ?_⟩
  congr 1
  rw [List.map_map]
  conv => lhs; rw [← List.map_id xs]
  apply List.map_congr_left
  intro y hy
  obtain ⟨l, rfl⟩ := ba32_of (h y hy)
  rfl

end Go.Fw

end

section
/- Drawn regions with two stores. -/
namespace Go.Fw
open Go Go.Proofs
set_option linter.unusedVariables false

theorem AWP.dK2 {gl : GCalls} {keep : List Nat} {ds : List (Nat × List Info)} {kp N id : Nat} {l : List Oper} {Q : Exit → AS → Prop} {S S' : AS} (ct : CT gl keep ds) {fs : List Info} (hl : lkD id ds = some fs) (hdep : dOk2 l fs = true) (h : drunP E eqq gl N keep l fs S = some S') (hQ : Q .normal S') : AWP kp Try.prog N (.region id l.toArray true) Q S :=
  AWP.gdraw2 X_ok ct.cl keep mix fs hdep h hQ

/-- One step. -/
theorem St2 {F : Prop} (hF : F) {gl : GCalls} {keep : List Nat} {ds : List (Nat × List Info)} (ct : CT gl keep ds) {A B : Prop} (k : B) (h : F → CT gl keep ds → KB B → A := by
  (intro hF ct hk; (first
    | refine AWP.seq ?_
    | refine AWP.block ?_
    | (refine AWP.rK ct (Ev hF) ?_; try show AWP _ _ _ _ _ _)
    | (refine AWP.condT ?_ ?_; focus (simp only [W, eqq, ↓reduceIte, Nat.reduceEqDiff, Nat.reduceLT, Nat.reduceLeDiff, Nat.reduceAdd, Nat.reduceMul, Nat.reduceSub, Nat.reduceBEq, Int.reduceLE, Int.reduceLT, Int.reduceNeg, Int.reduceToNat, Int.reduceEq, Int.reduceBEq, Int.reduceBNe, Nat.reduceBNe, bne_self_eq_false, reduceCtorEq, gt_iff_lt, ge_iff_le, hF]; done))
    | (refine AWP.condF ?_ ?_; focus (simp only [W, eqq, ↓reduceIte, Nat.reduceEqDiff, Nat.reduceLT, Nat.reduceLeDiff, Nat.reduceAdd, Nat.reduceMul, Nat.reduceSub, Nat.reduceBEq, Int.reduceLE, Int.reduceLT, Int.reduceNeg, Int.reduceToNat, Int.reduceEq, Int.reduceBEq, Int.reduceBNe, Nat.reduceBNe, bne_self_eq_false, reduceCtorEq, gt_iff_lt, ge_iff_le, hF]; done))
    | (refine AWP.cT (by simp only [W, eqq, ↓reduceIte, Nat.reduceEqDiff, Nat.reduceLT, Nat.reduceLeDiff, Nat.reduceAdd, Nat.reduceMul, Nat.reduceSub, Nat.reduceBEq, Int.reduceLE, Int.reduceLT, Int.reduceNeg, Int.reduceToNat, Int.reduceEq, Int.reduceBEq, Int.reduceBNe, Nat.reduceBNe, bne_self_eq_false, reduceCtorEq, gt_iff_lt, ge_iff_le, hF]; with_reducible rfl) (by simp only [BL, beq_iff_eq, bne_iff_ne, beq_eq_false_iff_ne, bne_eq_false_iff_eq]; omega) ?_)
    | (refine AWP.cF (by simp only [W, eqq, ↓reduceIte, Nat.reduceEqDiff, Nat.reduceLT, Nat.reduceLeDiff, Nat.reduceAdd, Nat.reduceMul, Nat.reduceSub, Nat.reduceBEq, Int.reduceLE, Int.reduceLT, Int.reduceNeg, Int.reduceToNat, Int.reduceEq, Int.reduceBEq, Int.reduceBNe, Nat.reduceBNe, bne_self_eq_false, reduceCtorEq, gt_iff_lt, ge_iff_le, hF]; with_reducible rfl) (by simp only [BL, beq_iff_eq, bne_iff_ne, beq_eq_false_iff_ne, bne_eq_false_iff_eq]; omega) ?_)
    | (refine AWP.skip ?_; try show AWP _ _ _ _ _ _)
    | (refine AWP.exit ?_; try show AWP _ _ _ _ _ _)
    | (refine AWP.dK2 ct (by rfl) (by kernel_rfl) (Ev hF) ?_; try show AWP _ _ _ _ _ _)); exact hk.out)) : A := h hF ct ⟨k⟩


end Go.Fw

end

section
/- Chapter 8: the law MerkleTwice, its code walked. -/
namespace Go.Fw
open Go Go.Proofs
set_option linter.unusedVariables false
set_option linter.unusedSimpArgs false

noncomputable def F7 : Fun
  | [.sq 32 xs] => match asHs xs with
    | some l => some ([], .t (.bool true))
    | none => none
  | _ => none

theorem ct7 : CT [(8, ⟨[], treeG F8⟩), (9, ⟨[false], treeG F9⟩)] [0, 2, 3, 4, 5, 6, 7, 15, 26] [(6, [⟨1, [], [], []⟩, ⟨0, [27], [0], []⟩, ⟨0, [0], [0], []⟩, ⟨0, [5], [0], []⟩, ⟨0, [30], [0], []⟩, ⟨1, [29, 31], [0], []⟩, ⟨1, [32], [0, 5], []⟩, ⟨0, [0], [0], []⟩, ⟨0, [5], [0], []⟩, ⟨0, [35], [0], []⟩, ⟨1, [34, 36], [0], []⟩, ⟨1, [37], [0, 10], []⟩, ⟨0, [33, 38], [0, 5, 6, 10, 11], []⟩, ⟨0, [39], [0, 5, 6, 10, 11], []⟩, ⟨0, [4], [0, 5, 6, 10, 11], []⟩, ⟨0, [40, 41], [0, 5, 6, 10, 11], []⟩, ⟨0, [28, 42], [0, 5, 6, 10, 11], []⟩, ⟨0, [43], [0, 5, 6, 10, 11], []⟩]), (7, [⟨1, [], [], []⟩, ⟨0, [0], [], []⟩, ⟨2, [45, 46], [0], []⟩, ⟨0, [0], [], []⟩, ⟨0, [5], [], []⟩, ⟨0, [49], [], []⟩, ⟨0, [48, 50], [], []⟩, ⟨0, [51], [], []⟩, ⟨0, [52], [], []⟩, ⟨2, [47, 53], [0, 2], []⟩, ⟨1, [54], [0, 2, 9], []⟩, ⟨0, [55], [0, 2, 9, 10], []⟩, ⟨0, [44], [0, 2, 9, 10], []⟩, ⟨0, [44], [0, 2, 9, 10], []⟩, ⟨1, [], [], []⟩, ⟨2, [6, 56], [0, 2, 9, 10, 14], []⟩, ⟨0, [57], [0, 2, 9, 10, 14, 15], []⟩])] := ⟨(.cons c8.g (.cons c9.g (.nil _)))⟩

theorem tellOp_op (σ : List Nat) (x y i : Nat) (o : Oper) : (tellOp σ x y i o).op = o.op := rfl
theorem tellOp_dst (σ : List Nat) (x y i : Nat) (o : Oper) : (tellOp σ x y i o).dst = o.dst := rfl
theorem tellOp_guard (σ : List Nat) (x y i : Nat) (o : Oper) : (tellOp σ x y i o).guard = o.guard := rfl

set_option maxHeartbeats 4000000 in
theorem c7 : ACon Try.prog 7 F7 := by
  refine aconc E_ok (rs := [.tmp 2 4]) Try.func7 rfl Try.ntmps7 (by kernel_rfl) rfl (by decide) F7 (np := 1) ?_ ?_
  · intro ts h; unfold F7; split <;> first | rfl | (simp at h; done)
  intro ts H r hF hwf
  unfold F7 at hF
  split at hF <;> try (cases hF; done)
  rename_i xs
  split at hF <;> try (cases hF; done)
  rename_i l hl
  cases hF
  obtain rfl := asHs_inv hl
  obtain ⟨_, h32⟩ := hs_wf (hwf (.sq 32 (l.map hT)) (by simp))
  by_cases hn : 40 < (l.length : Int)
  · repeat refine St2 (And.intro hn <| @F8.eq_def) ct7 ?_
    exact AWP.ret (Fin trivial [] [])
  by_cases hn2 : (l.length : Int) < 2
  · repeat refine St2 (And.intro hn <| And.intro hn2 <| @F8.eq_def) ct7 ?_
    exact AWP.ret (Fin trivial [] [])
  have h1 := root_mc (l := l) (by omega)
  have hrem : IntKind.i64.wrap (Int.tmod (l.length : Int) 2) = ((l.length % 2 : Nat) : Int) := by
    rw [Int.tmod_eq_emod_of_nonneg (by omega), wrap_i64 (by omega) (by omega)]; omega
  have hm1 : IntKind.i64.wrap ((l.length : Int) - 1) = ((l.length - 1 : Nat) : Int) := by rw [wrap_i64 (by omega) (by omega)]; omega
  have hm2 : IntKind.i64.wrap ((l.length : Int) - 2) = ((l.length - 2 : Nat) : Int) := by rw [wrap_i64 (by omega) (by omega)]; omega
  have l1 : l.length - 1 < l.length := by omega
  have l2 : l.length - 2 < l.length := by omega
  have i1 : ((l.length - 1 : Nat) : Int) < (l.length : Int) := by omega
  have i2 : ((l.length - 2 : Nat) : Int) < (l.length : Int) := by omega
  have g1 := hs_getD l1
  have g2 := hs_getD l2
  by_cases he : l.length % 2 = 0
  · have heb : (((l.length % 2 : Nat) : Int) == 0) = true := by rw [beq_iff_eq]; omega
    have hev := even_alike pairS (l := l) he (by omega)
    generalize rootW pairS l false = R at *
    obtain ⟨r, d⟩ := R
    dsimp only at h1 hev
    generalize l.getD (l.length - 1) [] = a at *
    generalize l.getD (l.length - 2) [] = b at *
    generalize hk1 : l.length - 1 = k1 at *
    generalize hk2 : l.length - 2 = k2 at *
    by_cases hab : a = b
    · have hd := hev hab
      subst hd
      have hbe : (a == b) = true := by rw [hab]; exact beq_self_eq_true _
      repeat refine St2 (And.intro hn <| And.intro hn2 <| And.intro h1 <| And.intro hrem <| And.intro heb <| And.intro hm1 <| And.intro hm2 <| And.intro l1 <| And.intro l2 <| And.intro i1 <| And.intro i2 <| And.intro g1 <| And.intro g2 <| And.intro hbe <| @F8.eq_def) ct7 ?_
      exact AWP.ret (Fin trivial [] [])
    · have hbe : (a == b) = false := by simpa using hab
      repeat refine St2 (And.intro hn <| And.intro hn2 <| And.intro h1 <| And.intro hrem <| And.intro heb <| And.intro hm1 <| And.intro hm2 <| And.intro l1 <| And.intro l2 <| And.intro i1 <| And.intro i2 <| And.intro g1 <| And.intro g2 <| And.intro hbe <| @F8.eq_def) ct7 ?_
      exact AWP.ret (Fin trivial [] [])
  · have heb : (((l.length % 2 : Nat) : Int) == 0) = false := by rw [beq_eq_false_iff_ne]; omega
    have htw := twice_root pairS (l := l) (by omega) (by omega)
    have h2 := root_mc (l := l ++ [l.getD (l.length - 1) []]) (by simp; omega)
    rw [htw, hs_snoc] at h2
    have h40 : (l.map hT).length ≤ 40 := by simp; omega
    generalize rootW pairS l false = R at *
    obtain ⟨r, d⟩ := R
    dsimp only at h1 h2
    generalize l.getD (l.length - 1) [] = a at *
    generalize hk1 : l.length - 1 = k1 at *
    iterate 17 (try refine St2 (And.intro hn <| And.intro hn2 <| And.intro h1 <| And.intro h2 <| And.intro hrem <| And.intro heb <| And.intro hm1 <| And.intro l1 <| And.intro i1 <| And.intro g1 <| h40) ct7 ?_)
    have hrr : (r == r) = true := beq_self_eq_true r
    refine AWP.any mix (WA.split 14 9 [10, 15] [0, 1, 2, 3, 4, 5, 6, 7, 8, 14, 9, 10, 11, 12, 13, 15, 16] [0, 1, 2, 3, 4, 5, 6, 7, 8, 9, 10, 11, 12, 13, 14, 15, 16] (by kernel_rfl) (by kernel_rfl) (by kernel_rfl) (WA.split 9 2 [10, 11, 15] [9, 0, 1, 2, 3, 4, 5, 6, 7, 8, 10, 11, 12, 13, 14, 15, 16] [0, 1, 2, 3, 4, 5, 6, 7, 8, 9, 10, 11, 12, 13, 14, 15, 16] (by kernel_rfl) (by kernel_rfl) (by kernel_rfl) ?_ ?_) ?_)
    · simp only [tell, List.filterMap_cons, List.filterMap_nil, List.getElem?_cons_zero, List.getElem?_cons_succ, Option.map_some]
      refine WA.draw X_ok ct7.cl [0, 2, 3, 4, 5, 6, 7, 15, 26] [⟨1, [], [], []⟩, ⟨1, [], [], []⟩, ⟨0, [0], [], []⟩, ⟨2, [45, 46], [0, 1], []⟩, ⟨0, [0], [], []⟩, ⟨0, [5], [], []⟩, ⟨0, [49], [], []⟩, ⟨0, [48, 50], [], []⟩, ⟨0, [51], [], []⟩, ⟨0, [52], [], []⟩, ⟨2, [47, 53], [0, 1, 3], []⟩, ⟨1, [54], [0, 1, 3, 10], []⟩, ⟨0, [55], [0, 1, 3, 10, 11], []⟩, ⟨0, [44], [0, 1, 3, 10, 11], []⟩, ⟨0, [44], [0, 1, 3, 10, 11], []⟩, ⟨2, [6, 56], [0, 1, 3, 10, 11], []⟩, ⟨0, [57], [0, 1, 3, 10, 11, 15], []⟩] (by kernel_rfl) (Ev (And.intro hn <| And.intro hn2 <| And.intro h1 <| And.intro h2 <| And.intro hrem <| And.intro heb <| And.intro hm1 <| And.intro l1 <| And.intro i1 <| And.intro g1 <| And.intro h40 <| And.intro @tellOp_op <| And.intro @tellOp_dst <| @tellOp_guard)) ?_
      show AWP _ _ _ _ _ _
      repeat refine St2 (And.intro hn <| And.intro hn2 <| And.intro h1 <| And.intro h2 <| And.intro @F8.eq_def <| hrr) ct7 ?_
      exact AWP.ret (Fin trivial [] [])
    · simp only [tell, List.filterMap_cons, List.filterMap_nil, List.getElem?_cons_zero, List.getElem?_cons_succ, Option.map_some]
      refine WA.draw X_ok ct7.cl [0, 2, 3, 4, 5, 6, 7, 15, 26] [⟨1, [], [], []⟩, ⟨0, [0], [], []⟩, ⟨2, [45, 46], [0], []⟩, ⟨0, [0], [], []⟩, ⟨0, [5], [], []⟩, ⟨0, [49], [], []⟩, ⟨0, [48, 50], [], []⟩, ⟨0, [51], [], []⟩, ⟨0, [52], [], []⟩, ⟨1, [], [0, 2], []⟩, ⟨2, [47, 53], [0, 2, 9], []⟩, ⟨1, [54], [0, 2, 9, 10], []⟩, ⟨0, [55], [0, 2, 9, 10, 11], []⟩, ⟨0, [44], [0, 2, 9, 10, 11], []⟩, ⟨0, [44], [0, 2, 9, 10, 11], []⟩, ⟨2, [6, 56], [0, 2, 9, 10, 11], []⟩, ⟨0, [57], [0, 2, 9, 10, 11, 15], []⟩] (by kernel_rfl) (Ev (And.intro hn <| And.intro hn2 <| And.intro h1 <| And.intro h2 <| And.intro hrem <| And.intro heb <| And.intro hm1 <| And.intro l1 <| And.intro i1 <| And.intro g1 <| And.intro h40 <| And.intro @tellOp_op <| And.intro @tellOp_dst <| @tellOp_guard)) ?_
      show AWP _ _ _ _ _ _
      repeat refine St2 (And.intro hn <| And.intro hn2 <| And.intro h1 <| And.intro h2 <| And.intro @F8.eq_def <| hrr) ct7 ?_
      exact AWP.ret (Fin trivial [] [])
    · simp only [tell, List.filterMap_cons, List.filterMap_nil, List.getElem?_cons_zero, List.getElem?_cons_succ, Option.map_some]
      refine WA.draw X_ok ct7.cl [0, 2, 3, 4, 5, 6, 7, 15, 26] [⟨1, [], [], []⟩, ⟨0, [0], [], []⟩, ⟨2, [45, 46], [0], []⟩, ⟨0, [0], [], []⟩, ⟨0, [5], [], []⟩, ⟨0, [49], [], []⟩, ⟨0, [48, 50], [], []⟩, ⟨0, [51], [], []⟩, ⟨0, [52], [], []⟩, ⟨2, [47, 53], [0, 2], []⟩, ⟨1, [54], [0, 2, 9], []⟩, ⟨0, [55], [0, 2, 9, 10], []⟩, ⟨0, [44], [0, 2, 9, 10], []⟩, ⟨0, [44], [0, 2, 9, 10], []⟩, ⟨1, [], [0, 2, 9], []⟩, ⟨2, [6, 56], [0, 2, 9, 10, 14], []⟩, ⟨0, [57], [0, 2, 9, 10, 14, 15], []⟩] (by kernel_rfl) (Ev (And.intro hn <| And.intro hn2 <| And.intro h1 <| And.intro h2 <| And.intro hrem <| And.intro heb <| And.intro hm1 <| And.intro l1 <| And.intro i1 <| And.intro g1 <| And.intro h40 <| And.intro @tellOp_op <| And.intro @tellOp_dst <| @tellOp_guard)) ?_
      show AWP _ _ _ _ _ _
      repeat refine St2 (And.intro hn <| And.intro hn2 <| And.intro h1 <| And.intro h2 <| And.intro @F8.eq_def <| hrr) ct7 ?_
      exact AWP.ret (Fin trivial [] [])

end Go.Fw

end
