/- The abstract machine, and the contracts of the code: part 45. -/
import Derived.Test.YtdbngpmkecdnpaaFwRoots

section
/- Chapter 7: turning, the numbers of the steps. -/
namespace Go.Fw
open Go Go.Proofs
set_option linter.unusedVariables false
set_option linter.unusedSimpArgs false

theorem u32_of {n : Int} (h : inK .u32 n) : n = ((UInt32.ofNat n.toNat).toNat : Int) := by
  obtain ⟨h1, h2⟩ := h
  have h2' : n ≤ 4294967295 := h2
  have h1' : 0 ≤ n := h1
  rw [UInt32.toNat_ofNat', Nat.mod_eq_of_lt (by omega)]; omega

theorem rot_s : ∀ r : Nat, r < 32 → 1 ≤ r → abits .and .u64 (IntKind.u64.wrap (-(r : Int))) 31 = ((32 - r : Nat) : Int) ∧ IntKind.u64.wrap (32 - ((32 - r : Nat) : Int)) = (r : Int) := by decide +kernel

def F34 : Fun
  | [.int .u32 n, .int .i64 k] => if -31 ≤ k ∧ k ≤ -1 then some ([], .t (u32T (tr (UInt32.ofNat n.toNat) (-k).toNat))) else none
  | _ => none

theorem ct34 : CT [] [0, 1, 4, 5] [] := ⟨GClOk.nil _⟩

theorem c34 : ACon Try.prog 34 F34 := by
  refine aconc E_ok (rs := [.tmp 4 38]) Try.func34 rfl Try.ntmps34 (by kernel_rfl) rfl (by decide) F34 (np := 2) ?_ ?_
  · intro ts h; unfold F34; split <;> first | rfl | (simp at h; done)
  intro ts H r hF hwf
  unfold F34 at hF
  split at hF <;> try (cases hF; done)
  rename_i n k
  split at hF
  case isFalse => cases hF
  rename_i hk
  have hn : inK .u32 n := by have := hwf _ (List.mem_cons_self); simpa only [T.wf] using this
  have hn' := u32_of hn
  generalize UInt32.ofNat n.toNat = x at *
  subst hn'
  obtain ⟨r, hr, hr1⟩ : ∃ r : Nat, k = -(r : Int) ∧ (-k).toNat = r := ⟨(-k).toNat, by omega, rfl⟩
  rw [hr1] at hF
  cases hF
  subst hr
  obtain ⟨h1, h2⟩ := rot_s r (by omega) (by omega)
  have h0 : ¬ ((32 - r : Nat) : Int) < 0 := by omega
  have h3 : ¬ (r : Int) < 0 := by omega
  have h4 := u32_shl x (32 - r) (by omega)
  have h5 := u32_shr x r (by omega)
  repeat refine St (And.intro h1 <| And.intro h2 <| And.intro h0 <| And.intro h3 <| And.intro h4 <| And.intro h5 <| @u32_or) ct34 ?_
  have e : tr x r = x <<< UInt32.ofNat (32 - r) ||| x >>> UInt32.ofNat r := UInt32.or_comm _ _
  exact AWP.ret (Fin (And.intro e <| @u32T.eq_def) [] [])

theorem u32_ofNat (x : UInt32) : UInt32.ofNat x.toNat = x := by simp
theorem rot_c (x : UInt32) (r : Nat) (h : r ≤ 31) (h1 : 1 ≤ r) : F34 [.int .u32 (x.toNat : Int), .int .i64 (-(r : Int))] = some ([], .t (.int .u32 ((tr x r).toNat : Int))) := by
  simp only [F34]
  rw [if_pos ⟨by omega, by omega⟩]
  simp [u32T]
theorem rotc2 (x : UInt32) : F34 [.int .u32 (x.toNat : Int), .int .i64 (-2)] = some ([], .t (.int .u32 ((tr x 2).toNat : Int))) := rot_c x 2 (by omega) (by omega)
theorem rotc6 (x : UInt32) : F34 [.int .u32 (x.toNat : Int), .int .i64 (-6)] = some ([], .t (.int .u32 ((tr x 6).toNat : Int))) := rot_c x 6 (by omega) (by omega)
theorem rotc7 (x : UInt32) : F34 [.int .u32 (x.toNat : Int), .int .i64 (-7)] = some ([], .t (.int .u32 ((tr x 7).toNat : Int))) := rot_c x 7 (by omega) (by omega)
theorem rotc11 (x : UInt32) : F34 [.int .u32 (x.toNat : Int), .int .i64 (-11)] = some ([], .t (.int .u32 ((tr x 11).toNat : Int))) := rot_c x 11 (by omega) (by omega)
theorem rotc13 (x : UInt32) : F34 [.int .u32 (x.toNat : Int), .int .i64 (-13)] = some ([], .t (.int .u32 ((tr x 13).toNat : Int))) := rot_c x 13 (by omega) (by omega)
theorem rotc17 (x : UInt32) : F34 [.int .u32 (x.toNat : Int), .int .i64 (-17)] = some ([], .t (.int .u32 ((tr x 17).toNat : Int))) := rot_c x 17 (by omega) (by omega)
theorem rotc18 (x : UInt32) : F34 [.int .u32 (x.toNat : Int), .int .i64 (-18)] = some ([], .t (.int .u32 ((tr x 18).toNat : Int))) := rot_c x 18 (by omega) (by omega)
theorem rotc19 (x : UInt32) : F34 [.int .u32 (x.toNat : Int), .int .i64 (-19)] = some ([], .t (.int .u32 ((tr x 19).toNat : Int))) := rot_c x 19 (by omega) (by omega)
theorem rotc22 (x : UInt32) : F34 [.int .u32 (x.toNat : Int), .int .i64 (-22)] = some ([], .t (.int .u32 ((tr x 22).toNat : Int))) := rot_c x 22 (by omega) (by omega)
theorem rotc25 (x : UInt32) : F34 [.int .u32 (x.toNat : Int), .int .i64 (-25)] = some ([], .t (.int .u32 ((tr x 25).toNat : Int))) := rot_c x 25 (by omega) (by omega)

theorem kT_eq : List.map u32T kS = [T.int .u32 1116352408, T.int .u32 1899447441, T.int .u32 3049323471, T.int .u32 3921009573, T.int .u32 961987163, T.int .u32 1508970993, T.int .u32 2453635748, T.int .u32 2870763221, T.int .u32 3624381080, T.int .u32 310598401, T.int .u32 607225278, T.int .u32 1426881987, T.int .u32 1925078388, T.int .u32 2162078206, T.int .u32 2614888103, T.int .u32 3248222580, T.int .u32 3835390401, T.int .u32 4022224774, T.int .u32 264347078, T.int .u32 604807628, T.int .u32 770255983, T.int .u32 1249150122, T.int .u32 1555081692, T.int .u32 1996064986, T.int .u32 2554220882, T.int .u32 2821834349, T.int .u32 2952996808, T.int .u32 3210313671, T.int .u32 3336571891, T.int .u32 3584528711, T.int .u32 113926993, T.int .u32 338241895, T.int .u32 666307205, T.int .u32 773529912, T.int .u32 1294757372, T.int .u32 1396182291, T.int .u32 1695183700, T.int .u32 1986661051, T.int .u32 2177026350, T.int .u32 2456956037, T.int .u32 2730485921, T.int .u32 2820302411, T.int .u32 3259730800, T.int .u32 3345764771, T.int .u32 3516065817, T.int .u32 3600352804, T.int .u32 4094571909, T.int .u32 275423344, T.int .u32 430227734, T.int .u32 506948616, T.int .u32 659060556, T.int .u32 883997877, T.int .u32 958139571, T.int .u32 1322822218, T.int .u32 1537002063, T.int .u32 1747873779, T.int .u32 1955562222, T.int .u32 2024104815, T.int .u32 2227730452, T.int .u32 2361852424, T.int .u32 2428436474, T.int .u32 2756734187, T.int .u32 3204031479, T.int .u32 3329325298] := rfl
theorem hT_eq : List.map u32T hS = [T.int .u32 1779033703, T.int .u32 3144134277, T.int .u32 1013904242, T.int .u32 2773480762, T.int .u32 1359893119, T.int .u32 2600822924, T.int .u32 528734635, T.int .u32 1541459225] := rfl

def F33 : Fun
  | [] => some ([], .t (.ar 64 1 (kS.map u32T)))
  | _ => none

theorem ct33 : CT [] [0] [] := ⟨GClOk.nil _⟩

theorem c33 : ACon Try.prog 33 F33 := by
  refine aconc E_ok (rs := [.cell 0 54]) Try.func33 rfl Try.ntmps33 (by kernel_rfl) rfl (by decide) F33 (np := 0) ?_ ?_
  · intro ts h; unfold F33; split <;> first | rfl | (simp at h; done)
  intro ts H r hF hwf
  unfold F33 at hF
  split at hF <;> try (cases hF; done)
  cases hF
  repeat refine St @zar_len ct33 ?_
  exact AWP.ret (Fin @kT_eq [] [])

def F27 : Fun
  | [] => some ([], .t (.ar 8 1 (hS.map u32T)))
  | _ => none

theorem ct27 : CT [] [0] [] := ⟨GClOk.nil _⟩

theorem c27 : ACon Try.prog 27 F27 := by
  refine aconc E_ok (rs := [.cell 0 45]) Try.func27 rfl Try.ntmps27 (by kernel_rfl) rfl (by decide) F27 (np := 0) ?_ ?_
  · intro ts h; unfold F27; split <;> first | rfl | (simp at h; done)
  intro ts H r hF hwf
  unfold F27 at hF
  split at hF <;> try (cases hF; done)
  cases hF
  repeat refine St trivial ct27 ?_
  exact AWP.ret (Fin @hT_eq [] [])

end Go.Fw

end

section
/- Chapter 7: a block's numbers. -/
namespace Go.Fw
open Go Go.Proofs
set_option linter.unusedVariables false
set_option linter.unusedSimpArgs false

def F32 : Fun
  | [.by b] => if b.length = 64 then some ([], .t (.ar 64 1 ((sch b 64).map u32T))) else none
  | _ => none

theorem ct32 : CT [(34, ⟨[false, false], treeG F34⟩)] [0, 2, 3, 4, 6, 7, 8, 9, 10, 11, 12, 13, 21, 22, 23, 24, 39] [(14, [⟨0, [7], []⟩, ⟨0, [42], []⟩, ⟨1, [3, 43], []⟩, ⟨1, [44], [2]⟩, ⟨0, [7], []⟩, ⟨0, [46], []⟩, ⟨1, [3, 47], []⟩, ⟨1, [48], [6]⟩, ⟨0, [45], [2, 3]⟩, ⟨0, [49], [2, 3, 6, 7]⟩]), (17, [⟨0, [7], []⟩, ⟨0, [7], []⟩, ⟨0, [67], []⟩, ⟨1, [3, 68], []⟩, ⟨1, [69], [3]⟩, ⟨0, [10], []⟩, ⟨0, [70, 71], [3, 4]⟩, ⟨0, [7], []⟩, ⟨0, [73], []⟩, ⟨1, [3, 74], []⟩, ⟨1, [75], [9]⟩, ⟨0, [72, 76], [3, 4, 9, 10]⟩, ⟨0, [11], []⟩, ⟨0, [77, 78], [3, 4, 9, 10]⟩, ⟨1, [3, 66], [3, 4, 9, 10]⟩, ⟨2, [79, 80], [3, 4, 9, 10, 14]⟩])] := ⟨(.cons c34.g (.nil _))⟩

/-- The array so far: so many numbers, then noughts. -/
def arS (l : List UInt32) (n : Nat) : List T := (l ++ List.replicate (n - l.length) 0).map u32T
theorem arS_len {l : List UInt32} {n : Nat} (h : l.length ≤ n) : (arS l n).length = n := by simp [arS]; omega
theorem arS_get {l : List UInt32} {n i : Nat} (h : i < l.length) : (arS l n).getD i default = .int .u32 ((l.getD i 0).toNat : Int) := by
  simp [arS, List.getD_eq_getElem?_getD, List.getElem?_append_left, h, u32T]
theorem rep_pad {l : List UInt32} {n : Nat} (h : l.length < n) : l ++ List.replicate (n - l.length) 0 = l ++ 0 :: List.replicate (n - (l.length + 1)) 0 := by
  have e : n - l.length = (n - (l.length + 1)) + 1 := by omega
  rw [e, List.replicate_succ]
theorem arS_set {l : List UInt32} {n : Nat} {x y : UInt32} (h : l.length < n) : (arS (l ++ [y]) n).set l.length (.int .u32 (x.toNat : Int)) = arS (l ++ [x]) n := by
  have e : T.int .u32 (x.toNat : Int) = u32T x := rfl
  rw [e]
  simp only [arS, ← List.map_set]
  simp
theorem arS_zero {l : List UInt32} {n : Nat} (h : l.length < n) : arS l n = arS (l ++ [0]) n := by
  unfold arS
  rw [rep_pad h]
  simp
theorem arS_nil (n : Nat) : arS [] n = zar n (.int .u32 0) := by simp [arS, zar, u32T]
theorem arS_full {l : List UInt32} {n : Nat} (h : l.length = n) : arS l n = l.map u32T := by simp [arS, h]

theorem arS_size (l : List UInt32) (n i : Nat) (h : i < (arS l n).length) : ((arS l n).getD i default).size = 1 := by
  unfold arS at *
  rw [List.length_map] at h
  rw [u32T_getD h]; rfl

theorem sl8 (x : UInt32) : IntKind.u32.wrap ((x.toNat : Int) * 2 ^ (min 8 IntKind.u32.bits)) = ((x <<< 8).toNat : Int) := u32_shl x 8 (by omega)
theorem sr3 (x : UInt32) : Int.fdiv (x.toNat : Int) (2 ^ (min 3 IntKind.u32.bits)) = ((x >>> 3).toNat : Int) := u32_shr x 3 (by omega)
theorem sr10 (x : UInt32) : Int.fdiv (x.toNat : Int) (2 ^ (min 10 IntKind.u32.bits)) = ((x >>> 10).toNat : Int) := u32_shr x 10 (by omega)

def wacc (b : List UInt8) (t : Nat) : Nat → UInt32
  | 0 => 0
  | j + 1 => wacc b t j <<< 8 ||| (b.getD (4 * t + j) 0).toUInt32
theorem wacc4 (b : List UInt8) (t : Nat) : wacc b t 4 = word b t := by
  simp only [wacc, word, Nat.add_zero]
  congr 6
  simp

theorem fsg0 (x : UInt32) : tr x 7 ^^^ tr x 18 ^^^ x >>> 3 = sg0 x := rfl
theorem fsg1 (x : UInt32) : tr x 17 ^^^ tr x 19 ^^^ x >>> 10 = sg1 x := rfl

set_option maxHeartbeats 1000000 in
theorem c32 : ACon Try.prog 32 F32 := by
  refine aconc E_ok (rs := [.cell 2 54]) Try.func32 rfl Try.ntmps32 (by kernel_rfl) rfl (by decide) F32 (np := 1) ?_ ?_
  · intro ts h; unfold F32; split <;> first | rfl | (simp at h; done)
  intro ts H r hF hwf
  unfold F32 at hF
  split at hF <;> try (cases hF; done)
  rename_i b
  split at hF
  case isFalse => cases hF
  rename_i hb
  cases hF
  repeat refine St trivial ct32 ?_
  refine AWP.loop (G := { t : Nat // t ≤ 16 }) (fun t => ⟨[(0, .t (.by b)), (2, .ptr 0 0 []), (3, .ptr 1 0 []), (12, .t (.int .i64 (t.1 : Int)))], [.bx (.t (.ar 64 1 (zar 64 (.int .u32 0)))), .bx (.t (.ar 64 1 (arS (sch b t.1) 64)))]⟩) (fun t => 16 - t.1) ⟨0, by omega⟩ ((Wt (And.intro (And.intro @sch.eq_1 <| @sch.eq_2) <| @arS_nil) [0, 2, 3, 12] [0, 1])) ?_
  · intro ⟨t, ht⟩
    dsimp only
    have hsl := sch_len b t
    by_cases hlt : (t : Int) < 16
    case neg =>
      obtain rfl : t = 16 := by omega
      repeat refine St hlt ct32 ?_
      refine AWP.loop (G := { t : Nat // 16 ≤ t ∧ t ≤ 64 }) (fun t => ⟨[(0, .t (.by b)), (2, .ptr 0 0 []), (3, .ptr 1 0 []), (7, .t (.int .i64 (t.1 : Int)))], [.bx (.t (.ar 64 1 (zar 64 (.int .u32 0)))), .bx (.t (.ar 64 1 (arS (sch b t.1) 64)))]⟩) (fun t => 64 - t.1) ⟨16, by omega⟩ ((Wt trivial [0, 2, 3, 7] [0, 1])) ?_
      intro ⟨t, ht1, ht2⟩
      dsimp only
      have hsl := sch_len b t
      by_cases hlt2 : (t : Int) < 64
      case neg =>
        obtain rfl : t = 64 := by omega
        have hf := arS_full hsl
        have harl : (List.map u32T (sch b 64)).length = 64 := by simp [hsl]
        repeat refine St (And.intro hlt2 <| And.intro hf <| And.intro harl <| And.intro @T.size.eq_def <| @zar_len) ct32 ?_
        exact AWP.ret (Fin trivial [] [])
      have ht64 : t < 64 := by omega
      have hm15 : IntKind.i64.wrap ((t : Int) - 15) = ((t - 15 : Nat) : Int) := by rw [wrap_i64 (by omega) (by omega)]; omega
      have hm2 : IntKind.i64.wrap ((t : Int) - 2) = ((t - 2 : Nat) : Int) := by rw [wrap_i64 (by omega) (by omega)]; omega
      have hm16 : IntKind.i64.wrap ((t : Int) - 16) = ((t - 16 : Nat) : Int) := by rw [wrap_i64 (by omega) (by omega)]; omega
      have hm7 : IntKind.i64.wrap ((t : Int) - 7) = ((t - 7 : Nat) : Int) := by rw [wrap_i64 (by omega) (by omega)]; omega
      have hk1 : IntKind.i64.wrap ((t : Int) + 1) = ((t + 1 : Nat) : Int) := by rw [wrap_i64 (by omega) (by omega)]; omega
      have harl : (arS (sch b t) 64).length = 64 := arS_len (by omega)
      have g15 := arS_get (n := 64) (l := sch b t) (i := t - 15) (by omega)
      have g2 := arS_get (n := 64) (l := sch b t) (i := t - 2) (by omega)
      have g16 := arS_get (n := 64) (l := sch b t) (i := t - 16) (by omega)
      have g7 := arS_get (n := 64) (l := sch b t) (i := t - 7) (by omega)
      have l15 : t - 15 < 64 := by omega
      have l2 : t - 2 < 64 := by omega
      have l16 : t - 16 < 64 := by omega
      have l7 : t - 7 < 64 := by omega
      have i15 : ((t - 15 : Nat) : Int) < 64 := by omega
      have i2 : ((t - 2 : Nat) : Int) < 64 := by omega
      have i16 : ((t - 16 : Nat) : Int) < 64 := by omega
      have i7 : ((t - 7 : Nat) : Int) < 64 := by omega
      have hars : ∀ y : UInt32, (arS (sch b t) 64).set t (.int .u32 (y.toNat : Int)) = arS (sch b t ++ [y]) 64 := fun y => by
        have := arS_set (l := sch b t) (n := 64) (x := y) (y := 0) (by omega)
        rw [← arS_zero (by omega), hsl] at this
        exact this
      have gsz := arS_size (sch b t) 64 t (by omega)
      have hnx : sch b t ++ [(sch b t).getD (t - 16) 0 + sg0 ((sch b t).getD (t - 15) 0) + (sch b t).getD (t - 7) 0 + sg1 ((sch b t).getD (t - 2) 0)] = sch b (t + 1) := by simp only [sch, next]; rw [if_neg (by omega)]
      repeat refine St (And.intro hlt2 <| And.intro hm15 <| And.intro hm2 <| And.intro hm16 <| And.intro hm7 <| And.intro harl <| And.intro @g15 <| And.intro g2 <| And.intro @g16 <| And.intro g7 <| And.intro l15 <| And.intro l2 <| And.intro l16 <| And.intro l7 <| And.intro i15 <| And.intro i2 <| And.intro i16 <| And.intro i7 <| And.intro ht64 <| And.intro @rotc7 <| And.intro @rotc18 <| And.intro @rotc17 <| And.intro @rotc19 <| And.intro @u32_xor <| And.intro @u32_add <| And.intro @sr3 <| And.intro @sr10 <| And.intro @fsg0 <| And.intro @fsg1 <| And.intro hars <| And.intro hk1 <| gsz) ct32 ?_
      exact ⟨⟨t + 1, by omega, by omega⟩, (Wt hnx [0, 2, 3, 7] [0, 1]), by simp only; omega⟩
    have hm1 : IntKind.i64.wrap (4 * (t : Int)) = ((4 * t : Nat) : Int) := by rw [wrap_i64 (by omega) (by omega)]; omega
    have hm2 : IntKind.i64.wrap (((4 * t : Nat) : Int) + 4) = ((4 * t + 4 : Nat) : Int) := by rw [wrap_i64 (by omega) (by omega)]; omega
    repeat refine St (And.intro hlt <| And.intro hm1 <| And.intro hm2 <| hb) ct32 ?_
    have hdl : (List.drop (4 * t) (List.take (4 * t + 4) b)).length = 4 := by simp; omega
    generalize hR : List.drop (4 * t) (List.take (4 * t + 4) b) = R at hdl
    have ht64 : t < 64 := by omega
    have harl : ∀ z, (arS (sch b t ++ [z]) 64).length = 64 := fun z => arS_len (by simp [hsl]; omega)
    have harg : ∀ z, (arS (sch b t ++ [z]) 64).getD t default = .int .u32 (z.toNat : Int) := fun z => by
      rw [arS_get (by simp [hsl])]
      simp [List.getD_eq_getElem?_getD, hsl]
    have hars : ∀ z y : UInt32, (arS (sch b t ++ [z]) 64).set t (.int .u32 (y.toNat : Int)) = arS (sch b t ++ [y]) 64 := fun z y => by
      have := arS_set (l := sch b t) (n := 64) (x := y) (y := z) (by omega)
      rwa [hsl] at this
    have hsn : sch b t ++ [word b t] = sch b (t + 1) := by simp only [sch, next]; rw [if_pos (by omega)]
    have hk2 : IntKind.i64.wrap ((t : Int) + 1) = ((t + 1 : Nat) : Int) := by rw [wrap_i64 (by omega) (by omega)]; omega
    refine AWP.loop (G := { j : Nat // j ≤ 4 }) (fun j => ⟨[(0, .t (.by b)), (2, .ptr 0 0 []), (3, .ptr 1 0 []), (4, .t (.int .i64 (t : Int))), (12, .t (.int .i64 (t : Int))), (21, .t (.by R)), (22, .t (.int .i64 4)), (23, .t (.int .i64 (j.1 : Int)))], [.bx (.t (.ar 64 1 (zar 64 (.int .u32 0)))), .bx (.t (.ar 64 1 (arS (sch b t ++ [wacc b t j.1]) 64)))]⟩) (fun j => 4 - j.1) ⟨0, by omega⟩ (Wt (And.intro (arS_zero (show (sch b t).length < 64 by omega)) <| And.intro (And.intro @wacc.eq_1 <| @wacc.eq_2) <| hdl) [0, 2, 3, 4, 12, 21, 22, 23] [0, 1]) ?_
    intro ⟨j, hj⟩
    dsimp only
    by_cases hlt4 : (j : Int) < 4
    · have hRg : R.getD j 0 = b.getD (4 * t + j) 0 := by
        rw [← hR]; simp only [List.getD_eq_getElem?_getD, List.getElem?_drop, List.getElem?_take]
        rw [if_pos (by omega)]
      have hj4 : j < 4 := by omega
      have hk1 : IntKind.i64.wrap ((j : Int) + 1) = ((j + 1 : Nat) : Int) := by rw [wrap_i64 (by omega) (by omega)]; omega
      repeat refine St (And.intro hlt4 <| And.intro hRg <| And.intro hj4 <| And.intro hdl <| And.intro harl <| And.intro harg <| And.intro hars <| And.intro ht64 <| And.intro @sl8 <| And.intro @u32_of_u8 <| And.intro @u32_or <| And.intro hk1 <| @u8.eq_def) ct32 ?_
      exact ⟨⟨j + 1, by omega⟩, (Wt (And.intro @wacc.eq_1 <| @wacc.eq_2) [0, 2, 3, 4, 12, 21, 22, 23] [0, 1]), by simp only; omega⟩
    · obtain rfl : j = 4 := by omega
      repeat refine St (And.intro hlt4 <| hk2) ct32 ?_
      exact ⟨⟨t + 1, by omega⟩, (Wt (And.intro @wacc4 <| hsn) [0, 2, 3, 12] [0, 1]), by simp only; omega⟩

end Go.Fw

end

section
/- Chapter 7: a block taken. -/
namespace Go.Fw
open Go Go.Proofs
set_option linter.unusedVariables false
set_option linter.unusedSimpArgs false

theorem u32T_inj {a b : UInt32} (h : u32T a = u32T b) : a = b := by
  simp only [u32T, T.int.injEq, true_and] at h
  exact UInt32.toNat_inj.1 (by omega)
noncomputable def asS8 (xs : List T) : Option S8 := inv (fun s : S8 => s.l.map u32T) xs
theorem asS8_map (s : S8) : asS8 (s.l.map u32T) = some s := inv_of (f := fun s : S8 => s.l.map u32T) (fun a b h => by
  simp only [S8.l, List.map_cons, List.map_nil, List.cons.injEq, and_true] at h
  obtain ⟨h1, h2, h3, h4, h5, h6, h7, h8⟩ := h
  cases a; cases b
  simp only [S8.mk.injEq]
  exact ⟨u32T_inj h1, u32T_inj h2, u32T_inj h3, u32T_inj h4, u32T_inj h5, u32T_inj h6, u32T_inj h7, u32T_inj h8⟩) s
theorem asS8_inv {xs : List T} {s : S8} (h : asS8 xs = some s) : xs = s.l.map u32T := inv_inv (f := fun s : S8 => s.l.map u32T) h

/-- A variable of eight numbers, or a hash that begins with them. -/
noncomputable def G28 : GFun
  | [.bx (.t (.ar 8 1 xs))], [.ptr 0 0 [], .t (.by b)] => match asS8 xs with
    | some s => if b.length = 64 then some ([.bx (.t (.ar 8 1 ((blkS s b).l.map u32T)))], .tup []) else none
    | none => none
  | [.bx (.t (.st [.ar 8 1 xs, .by r, .int .u64 n]))], [.ptr 0 0 [0], .t (.by b)] => match asS8 xs with
    | some s => if b.length = 64 then some ([.bx (.t (.st [.ar 8 1 ((blkS s b).l.map u32T), .by r, .int .u64 n]))], .tup []) else none
    | none => none
  | _, _ => none

theorem ct28 : CT [(32, ⟨[false], treeG F32⟩), (33, ⟨[], treeG F33⟩), (34, ⟨[false, false], treeG F34⟩)] [0, 1, 4, 5, 6, 7, 8, 9, 10, 11, 12, 19, 20, 101, 102] [(6, (List.cons (⟨1, [6], []⟩ : Info) <| List.cons (⟨1, [24], [0]⟩ : Info) <| List.cons (⟨0, [8], []⟩ : Info) <| List.cons (⟨1, [26], []⟩ : Info) <| List.cons (⟨0, [8], []⟩ : Info) <| List.cons (⟨1, [28], [3]⟩ : Info) <| List.cons (⟨0, [27, 29], [3, 5]⟩ : Info) <| List.cons (⟨0, [8], []⟩ : Info) <| List.cons (⟨1, [31], [3, 5]⟩ : Info) <| List.cons (⟨0, [30, 32], [3, 5, 8]⟩ : Info) <| List.cons (⟨0, [25, 33], [0, 1, 3, 5, 8]⟩ : Info) <| List.cons (⟨0, [8], []⟩ : Info) <| List.cons (⟨1, [6], []⟩ : Info) <| List.cons (⟨1, [36], [12]⟩ : Info) <| List.cons (⟨0, [35, 37], [12, 13]⟩ : Info) <| List.cons (⟨0, [8], []⟩ : Info) <| List.cons (⟨0, [39], []⟩ : Info) <| List.cons (⟨1, [6], []⟩ : Info) <| List.cons (⟨1, [41], [17]⟩ : Info) <| List.cons (⟨0, [40, 42], [17, 18]⟩ : Info) <| List.cons (⟨0, [38, 43], [12, 13, 17, 18]⟩ : Info) <| List.cons (⟨0, [34, 44], [0, 1, 3, 5, 8, 12, 13, 17, 18]⟩ : Info) <| List.cons (⟨0, [7], []⟩ : Info) <| List.cons (⟨1, [5, 46], []⟩ : Info) <| List.cons (⟨1, [47], [23]⟩ : Info) <| List.cons (⟨0, [45, 48], [0, 1, 3, 5, 8, 12, 13, 17, 18, 23, 24]⟩ : Info) <| List.cons (⟨0, [7], []⟩ : Info) <| List.cons (⟨1, [4, 50], []⟩ : Info) <| List.cons (⟨1, [51], [27]⟩ : Info) <| List.cons (⟨0, [49, 52], [0, 1, 3, 5, 8, 12, 13, 17, 18, 23, 24, 27, 28]⟩ : Info) <| List.cons (⟨0, [53], [0, 1, 3, 5, 8, 12, 13, 17, 18, 23, 24, 27, 28]⟩ : Info) <| [])), (8, [⟨0, [10], []⟩, ⟨1, [56], []⟩, ⟨0, [10], []⟩, ⟨1, [58], [1]⟩, ⟨0, [57, 59], [1, 3]⟩, ⟨0, [10], []⟩, ⟨1, [61], [1, 3]⟩, ⟨0, [60, 62], [1, 3, 6]⟩, ⟨0, [10], []⟩, ⟨1, [6], []⟩, ⟨1, [65], [9]⟩, ⟨0, [64, 66], [9, 10]⟩, ⟨0, [10], []⟩, ⟨1, [6], []⟩, ⟨1, [69], [13]⟩, ⟨0, [68, 70], [13, 14]⟩, ⟨0, [67, 71], [9, 10, 13, 14]⟩, ⟨1, [6], []⟩, ⟨1, [73], [17]⟩, ⟨1, [6], []⟩, ⟨1, [75], [19]⟩, ⟨0, [74, 76], [17, 18, 19, 20]⟩, ⟨0, [72, 77], [9, 10, 13, 14, 17, 18, 19, 20]⟩, ⟨0, [63, 78], [1, 3, 6, 9, 10, 13, 14, 17, 18, 19, 20]⟩, ⟨0, [79], [1, 3, 6, 9, 10, 13, 14, 17, 18, 19, 20]⟩]), (14, [⟨0, [0], []⟩, ⟨0, [12], []⟩, ⟨0, [104], []⟩, ⟨1, [105, 106], []⟩, ⟨1, [107], [3]⟩, ⟨0, [12], []⟩, ⟨1, [6, 109], []⟩, ⟨1, [110], [6]⟩, ⟨0, [108, 111], [3, 4, 6, 7]⟩, ⟨0, [104], []⟩, ⟨1, [105, 113], [3, 4, 6, 7]⟩, ⟨2, [112, 114], [3, 4, 6, 7, 10]⟩])] := ⟨(.cons c32.g (.cons c33.g (.cons c34.g (.nil _))))⟩

def a8 (v : S8) : List T := [.int .u32 (v.a.toNat : Int), .int .u32 (v.b.toNat : Int), .int .u32 (v.c.toNat : Int), .int .u32 (v.d.toNat : Int), .int .u32 (v.e.toNat : Int), .int .u32 (v.f.toNat : Int), .int .u32 (v.g.toNat : Int), .int .u32 (v.h.toNat : Int)]
theorem a8_eq (v : S8) : v.l.map u32T = a8 v := rfl

theorem kS_len : kS.length = 64 := rfl

/-- The first so many numbers added. -/
def mixS (s v : S8) (i : Nat) : List T := ((s.add v).l.take i ++ s.l.drop i).map u32T
theorem mixS_len (s v : S8) : ∀ i, i ≤ 8 → (mixS s v i).length = 8
  | 0, _ => rfl | 1, _ => rfl | 2, _ => rfl | 3, _ => rfl | 4, _ => rfl | 5, _ => rfl | 6, _ => rfl | 7, _ => rfl | 8, _ => rfl
  | i + 9, h => by omega
theorem mixS_get (s v : S8) : ∀ i, i < 8 → (mixS s v i).getD i default = .int .u32 ((s.l.getD i 0).toNat : Int)
  | 0, _ => rfl | 1, _ => rfl | 2, _ => rfl | 3, _ => rfl | 4, _ => rfl | 5, _ => rfl | 6, _ => rfl | 7, _ => rfl
  | i + 8, h => by omega
theorem a8_get (v : S8) : ∀ i, i < 8 → (List.map u32T v.l).getD i default = .int .u32 ((v.l.getD i 0).toNat : Int)
  | 0, _ => rfl | 1, _ => rfl | 2, _ => rfl | 3, _ => rfl | 4, _ => rfl | 5, _ => rfl | 6, _ => rfl | 7, _ => rfl
  | i + 8, h => by omega
theorem mixS_set (s v : S8) : ∀ i, i < 8 → (mixS s v i).set i (.int .u32 ((s.l.getD i 0 + v.l.getD i 0).toNat : Int)) = mixS s v (i + 1)
  | 0, _ => rfl | 1, _ => rfl | 2, _ => rfl | 3, _ => rfl | 4, _ => rfl | 5, _ => rfl | 6, _ => rfl | 7, _ => rfl
  | i + 8, h => by omega
theorem mixS_0 (s v : S8) : mixS s v 0 = s.l.map u32T := rfl
theorem mixS_8 (s v : S8) : mixS s v 8 = (s.add v).l.map u32T := rfl

set_option maxHeartbeats 4000000 in
theorem g28 : GCon Try.prog 28 G28 := by
  refine gconc E_ok (rs := []) Try.func28 rfl Try.ntmps28 (by kernel_rfl) rfl (by decide) G28 (np := 2) ?_ ?_
  · intro HB xs h; unfold G28; split <;> first | rfl | (simp at h; done)
  intro HB xs H r hG hwf hex
  unfold G28 at hG
  split at hG <;> try (cases hG; done)
  · rename_i xs b
    split at hG
    case h_2 => cases hG
    rename_i s hs
    split at hG
    case isFalse => cases hG
    rename_i hb
    cases hG
    obtain rfl := asS8_inv hs
    have hsp : F32 [.by b] = some ([], .t (.ar 64 1 ((sch b 64).map u32T))) := if_pos hb
    repeat refine St (And.intro (And.intro @gentry.eq_1 <| @gentry.eq_2) <| And.intro hsp <| @F33.eq_def) ct28 ?_
    refine AWP.loop (G := { t : Nat // t ≤ 64 }) (fun t => ⟨[(0, .ptr 0 0 []), (4, .ptr 1 0 []), (5, .ptr 2 0 []), (6, .ptr 3 0 []), (19, .t (.int .i64 (t.1 : Int)))], [.bx (.t (.ar 8 1 (s.l.map u32T))), .bx (.t (.ar 64 1 ((sch b 64).map u32T))), .bx (.t (.ar 64 1 (kS.map u32T))), .bx (.t (.ar 8 1 ((rnds b s t.1).l.map u32T)))]⟩) (fun t => 64 - t.1) ⟨0, by omega⟩ ((Wt (And.intro @rnds.eq_1 <| @rnds.eq_2) [0, 4, 5, 6, 19] [0, 1, 2, 3])) ?_
    intro ⟨t, ht⟩
    dsimp only
    by_cases hlt : (t : Int) < 64
    case neg =>
      obtain rfl : t = 64 := by omega
      repeat refine St hlt ct28 ?_
      refine AWP.loop (G := { i : Nat // i ≤ 8 }) (fun i => ⟨[(0, .ptr 0 0 []), (6, .ptr 1 0 []), (101, .t (.int .i64 (i.1 : Int)))], [.bx (.t (.ar 8 1 (mixS s (rnds b s 64) i.1))), .bx (.t (.ar 8 1 ((rnds b s 64).l.map u32T)))]⟩) (fun i => 8 - i.1) ⟨0, by omega⟩ ((Wt @mixS_0 [0, 6, 101] [0, 3])) ?_
      intro ⟨i, hi⟩
      dsimp only
      generalize hv : rnds b s 64 = v
      by_cases hl8 : (i : Int) < 8
      case neg =>
        obtain rfl : i = 8 := by omega
        have hfin : blkS s b = s.add v := by rw [← hv]; rfl
        repeat refine St hl8 ct28 ?_
        exact Fin (And.intro @mixS_8 <| hfin) [] [0]
      have hi8 : i < 8 := by omega
      have hml := mixS_len s v i (by omega)
      have hvl : (List.map u32T v.l).length = 8 := rfl
      have g1 := mixS_get s v i hi8
      have g2 := a8_get v i hi8
      have g3 := mixS_set s v i hi8
      have hk1 : IntKind.i64.wrap ((i : Int) + 1) = ((i + 1 : Nat) : Int) := by rw [wrap_i64 (by omega) (by omega)]; omega
      repeat refine St (And.intro hl8 <| And.intro hi8 <| And.intro hml <| And.intro hvl <| And.intro g1 <| And.intro g2 <| And.intro g3 <| And.intro @u32_add <| And.intro hk1 <| @T.size.eq_def) ct28 ?_
      exact ⟨⟨i + 1, by omega⟩, (Wt trivial [0, 6, 101] [0, 1]), by simp only; omega⟩
    have ht64 : t < 64 := by omega
    have hk1 : IntKind.i64.wrap ((t : Int) + 1) = ((t + 1 : Nat) : Int) := by rw [wrap_i64 (by omega) (by omega)]; omega
    have hkl : (List.map u32T kS).length = 64 := by simp [kS_len]
    have hwl : (List.map u32T (sch b 64)).length = 64 := by simp [sch_len]
    have hkg : (List.map u32T kS).getD t default = .int .u32 ((kS.getD t 0).toNat : Int) := u32T_getD (by rw [kS_len]; exact ht64)
    have hwg : (List.map u32T (sch b 64)).getD t default = .int .u32 (((sch b 64).getD t 0).toNat : Int) := u32T_getD (by rw [sch_len]; exact ht64)
    have hnx : rnds b s (t + 1) = rnd (rnds b s t) (kS.getD t 0) ((sch b 64).getD t 0) := rfl
    generalize rnds b s t = v at *
    generalize kS.getD t 0 = k at *
    generalize (sch b 64).getD t 0 = w at *
    repeat refine St (And.intro hlt <| And.intro (a8_eq v) <| And.intro @a8.eq_def <| And.intro hkl <| And.intro hwl <| And.intro hkg <| And.intro hwg <| And.intro ht64 <| And.intro hk1 <| And.intro @rotc2 <| And.intro @rotc6 <| And.intro @rotc11 <| And.intro @rotc13 <| And.intro @rotc22 <| And.intro @rotc25 <| And.intro @u32_xor <| And.intro @u32_and <| And.intro @u32_add <| And.intro @u32_not <| @T.size.eq_def) ct28 ?_
    exact ⟨⟨t + 1, by omega⟩, (Wt (And.intro hnx <| And.intro @rnd.eq_def <| And.intro @t1S.eq_def <| And.intro @t2S.eq_def <| And.intro @S8.l.eq_def <| @u32T.eq_def) [0, 4, 5, 6, 19] [0, 1, 2, 3]), by simp only; omega⟩
  · rename_i xs r n b
    split at hG
    case h_2 => cases hG
    rename_i s hs
    split at hG
    case isFalse => cases hG
    rename_i hb
    cases hG
    obtain rfl := asS8_inv hs
    have hsp : F32 [.by b] = some ([], .t (.ar 64 1 ((sch b 64).map u32T))) := if_pos hb
    repeat refine St (And.intro (And.intro @gentry.eq_1 <| @gentry.eq_2) <| And.intro hsp <| @F33.eq_def) ct28 ?_
    refine AWP.loop (G := { t : Nat // t ≤ 64 }) (fun t => ⟨[(0, .ptr 0 0 [0]), (4, .ptr 1 0 []), (5, .ptr 2 0 []), (6, .ptr 3 0 []), (19, .t (.int .i64 (t.1 : Int)))], [.bx (.t (.st [.ar 8 1 (s.l.map u32T), .by r, .int .u64 n])), .bx (.t (.ar 64 1 ((sch b 64).map u32T))), .bx (.t (.ar 64 1 (kS.map u32T))), .bx (.t (.ar 8 1 ((rnds b s t.1).l.map u32T)))]⟩) (fun t => 64 - t.1) ⟨0, by omega⟩ ((Wt (And.intro @rnds.eq_1 <| @rnds.eq_2) [0, 4, 5, 6, 19] [0, 1, 2, 3])) ?_
    intro ⟨t, ht⟩
    dsimp only
    by_cases hlt : (t : Int) < 64
    case neg =>
      obtain rfl : t = 64 := by omega
      repeat refine St hlt ct28 ?_
      refine AWP.loop (G := { i : Nat // i ≤ 8 }) (fun i => ⟨[(0, .ptr 0 0 [0]), (6, .ptr 1 0 []), (101, .t (.int .i64 (i.1 : Int)))], [.bx (.t (.st [.ar 8 1 (mixS s (rnds b s 64) i.1), .by r, .int .u64 n])), .bx (.t (.ar 8 1 ((rnds b s 64).l.map u32T)))]⟩) (fun i => 8 - i.1) ⟨0, by omega⟩ ((Wt @mixS_0 [0, 6, 101] [0, 3])) ?_
      intro ⟨i, hi⟩
      dsimp only
      generalize hv : rnds b s 64 = v
      by_cases hl8 : (i : Int) < 8
      case neg =>
        obtain rfl : i = 8 := by omega
        have hfin : blkS s b = s.add v := by rw [← hv]; rfl
        repeat refine St hl8 ct28 ?_
        exact Fin (And.intro @mixS_8 <| hfin) [] [0]
      have hi8 : i < 8 := by omega
      have hml := mixS_len s v i (by omega)
      have hvl : (List.map u32T v.l).length = 8 := rfl
      have g1 := mixS_get s v i hi8
      have g2 := a8_get v i hi8
      have g3 := mixS_set s v i hi8
      have hk1 : IntKind.i64.wrap ((i : Int) + 1) = ((i + 1 : Nat) : Int) := by rw [wrap_i64 (by omega) (by omega)]; omega
      repeat refine St (And.intro hl8 <| And.intro hi8 <| And.intro hml <| And.intro hvl <| And.intro g1 <| And.intro g2 <| And.intro g3 <| And.intro @u32_add <| And.intro hk1 <| @T.size.eq_def) ct28 ?_
      exact ⟨⟨i + 1, by omega⟩, (Wt trivial [0, 6, 101] [0, 1]), by simp only; omega⟩
    have ht64 : t < 64 := by omega
    have hk1 : IntKind.i64.wrap ((t : Int) + 1) = ((t + 1 : Nat) : Int) := by rw [wrap_i64 (by omega) (by omega)]; omega
    have hkl : (List.map u32T kS).length = 64 := by simp [kS_len]
    have hwl : (List.map u32T (sch b 64)).length = 64 := by simp [sch_len]
    have hkg : (List.map u32T kS).getD t default = .int .u32 ((kS.getD t 0).toNat : Int) := u32T_getD (by rw [kS_len]; exact ht64)
    have hwg : (List.map u32T (sch b 64)).getD t default = .int .u32 (((sch b 64).getD t 0).toNat : Int) := u32T_getD (by rw [sch_len]; exact ht64)
    have hnx : rnds b s (t + 1) = rnd (rnds b s t) (kS.getD t 0) ((sch b 64).getD t 0) := rfl
    generalize rnds b s t = v at *
    generalize kS.getD t 0 = k at *
    generalize (sch b 64).getD t 0 = w at *
    repeat refine St (And.intro hlt <| And.intro (a8_eq v) <| And.intro @a8.eq_def <| And.intro hkl <| And.intro hwl <| And.intro hkg <| And.intro hwg <| And.intro ht64 <| And.intro hk1 <| And.intro @rotc2 <| And.intro @rotc6 <| And.intro @rotc11 <| And.intro @rotc13 <| And.intro @rotc22 <| And.intro @rotc25 <| And.intro @u32_xor <| And.intro @u32_and <| And.intro @u32_add <| And.intro @u32_not <| @T.size.eq_def) ct28 ?_
    exact ⟨⟨t + 1, by omega⟩, (Wt (And.intro hnx <| And.intro @rnd.eq_def <| And.intro @t1S.eq_def <| And.intro @t2S.eq_def <| And.intro @S8.l.eq_def <| @u32T.eq_def) [0, 4, 5, 6, 19] [0, 1, 2, 3]), by simp only; omega⟩

end Go.Fw

end

section
/- Chapter 7: New, Write, Len. -/
namespace Go.Fw
open Go Go.Proofs
set_option linter.unusedVariables false
set_option linter.unusedSimpArgs false

/-- A hash that goes on. -/
abbrev hB (s : S8) (r : List UInt8) (n : Nat) : Blk := .bx (.t (.st [.ar 8 1 (s.l.map u32T), .by r, .int .u64 (n : Int)]))

def F14 : Fun
  | [] => some ([.bx (.t (.st [.ar 8 1 (hS.map u32T), .by [], .int .u64 0]))], .ptr 0 0 [])
  | _ => none

theorem ct14 : CT [(27, ⟨[], treeG F27⟩)] [0] [] := ⟨(.cons c27.g (.nil _))⟩

theorem c14 : ACon Try.prog 14 F14 := by
  refine aconc E_ok (rs := [.tmp 0 29]) Try.func14 rfl Try.ntmps14 (by kernel_rfl) rfl (by decide) F14 (np := 0) ?_ ?_
  · intro ts h; unfold F14; split <;> first | rfl | (simp at h; done)
  intro ts H r hF hwf
  unfold F14 at hF
  split at hF <;> try (cases hF; done)
  cases hF
  repeat refine St @F27.eq_def ct14 ?_
  refine AWP.weak (Wn 0 [1] 8 (.by [])) ?_
  exact AWP.ret (Fin trivial [] [0])

def G17 : GFun
  | [], [.t .nilp] => some ([], .t (.int .u64 0))
  | [.bx (.t (.st [.ar 8 1 xs, .by r, .int .u64 n]))], [.ptr 0 0 []] => some ([.bx (.t (.st [.ar 8 1 xs, .by r, .int .u64 n]))], .t (.int .u64 n))
  | _, _ => none

theorem ct17 : CT [] [0, 2, 4] [] := ⟨GClOk.nil _⟩

theorem g17 : GCon Try.prog 17 G17 := by
  refine gconc E_ok (rs := [.tmp 2 33]) Try.func17 rfl Try.ntmps17 (by kernel_rfl) rfl (by decide) G17 (np := 1) ?_ ?_
  · intro HB xs h; unfold G17; split <;> first | rfl | (simp at h; done)
  intro HB xs H r hG hwf hex
  unfold G17 at hG
  split at hG <;> try (cases hG; done)
  · cases hG
    repeat refine St (And.intro @gentry.eq_1 <| @gentry.eq_2) ct17 ?_
    exact AWP.ret (Fin trivial [] [])
  · rename_i xs r n
    cases hG
    repeat refine St (And.intro @gentry.eq_1 <| @gentry.eq_2) ct17 ?_
    exact AWP.ret (Fin trivial [] [0])

/-- The eight numbers behind so many blocks of some bytes. -/
def eatS (s : S8) (l : List UInt8) : Nat → S8
  | 0 => s
  | k + 1 => blkS (eatS s l k) ((l.drop (64 * k)).take 64)

theorem take_c1 (s : S8) {b : List UInt8} (h : b.length = 64) : G28 [.bx (.t (.ar 8 1 (s.l.map u32T)))] [.ptr 0 0 [], .t (.by b)] = some ([.bx (.t (.ar 8 1 ((blkS s b).l.map u32T)))], .tup []) := by
  simp only [G28, asS8_map]; rw [if_pos h]
theorem take_c2 (s : S8) (r : List UInt8) (n : Int) {b : List UInt8} (h : b.length = 64) : G28 [.bx (.t (.st [.ar 8 1 (s.l.map u32T), .by r, .int .u64 n]))] [.ptr 0 0 [0], .t (.by b)] = some ([.bx (.t (.st [.ar 8 1 ((blkS s b).l.map u32T), .by r, .int .u64 n]))], .tup []) := by
  simp only [G28, asS8_map]; rw [if_pos h]

noncomputable def G15 : GFun
  | [], [.t .nilp, .t (.by b)] => some ([], .tup [])
  | [.bx (.t (.st [.ar 8 1 xs, .by r, .int .u64 n]))], [.ptr 0 0 [], .t (.by b)] => match asS8 xs with
    | some s => if 0 ≤ n ∧ n ≤ 1000000000000 ∧ r.length ≤ 64 ∧ b.length ≤ 1000000000 then
        some ([.bx (.t (.st [.ar 8 1 ((eatS s (r ++ b) ((r ++ b).length / 64)).l.map u32T), .by ((r ++ b).drop (64 * ((r ++ b).length / 64))), .int .u64 (n + b.length)]))], .tup []) else none
    | none => none
  | _, _ => none

theorem ct15 : CT [(28, ⟨[true, false], G28⟩)] [0, 1, 5, 41] [(2, [⟨0, [0], []⟩, ⟨0, [0], []⟩, ⟨0, [17], []⟩, ⟨0, [18], []⟩, ⟨1, [19], []⟩, ⟨0, [0], []⟩, ⟨0, [21], []⟩, ⟨0, [22], []⟩, ⟨1, [23], []⟩, ⟨1, [24], [8]⟩, ⟨0, [0], []⟩, ⟨0, [26], []⟩, ⟨0, [27], []⟩, ⟨1, [28], []⟩, ⟨1, [29], [13]⟩, ⟨1, [20, 25, 30], [4, 8, 9, 13, 14]⟩, ⟨0, [1], []⟩, ⟨2, [31, 32], [4, 8, 9, 13, 14, 15]⟩, ⟨0, [16], [4, 8, 9, 13, 14, 15, 17]⟩, ⟨0, [34], [4, 8, 9, 13, 14, 15, 17]⟩, ⟨2, [33, 35], [4, 8, 9, 13, 14, 15, 17]⟩]), (4, [⟨0, [0], []⟩, ⟨0, [42], []⟩, ⟨0, [43], []⟩, ⟨0, [0], []⟩, ⟨0, [45], []⟩, ⟨0, [46], []⟩, ⟨1, [47], []⟩, ⟨1, [48], [6]⟩, ⟨2, [44, 49], [6, 7]⟩])] := ⟨(.cons g28 (.nil _))⟩


set_option maxHeartbeats 1000000 in
theorem g15 : GCon Try.prog 15 G15 := by
  refine gconc E_ok (rs := []) Try.func15 rfl Try.ntmps15 (by kernel_rfl) rfl (by decide) G15 (np := 2) ?_ ?_
  · intro HB xs h; unfold G15; split <;> first | rfl | (simp at h; done)
  intro HB xs H r hG hwf hex
  unfold G15 at hG
  split at hG <;> try (cases hG; done)
  · cases hG
    repeat refine St (And.intro @gentry.eq_1 <| @gentry.eq_2) ct15 ?_
    exact AWP.ret (Fin trivial [] [])
  · rename_i xs r n b
    split at hG
    case h_2 => cases hG
    rename_i s hs
    split at hG
    case isFalse => cases hG
    rename_i hc
    obtain ⟨hn0, hn1, hr, hb⟩ := hc
    cases hG
    obtain rfl := asS8_inv hs
    have hw1 : IntKind.u64.wrap (b.length : Int) = (b.length : Int) := wrap_u64 (by omega) (by omega)
    have hw2 : IntKind.u64.wrap (n + (b.length : Int)) = n + (b.length : Int) := wrap_u64 (by omega) (by omega)
    have hr1 : r.length ≤ r.length := Nat.le_refl _
    repeat refine St (And.intro (And.intro @gentry.eq_1 <| @gentry.eq_2) <| And.intro hw1 <| And.intro hw2 <| And.intro hr <| hb) ct15 ?_
    obtain ⟨N, hN⟩ : ∃ N, n + (b.length : Int) = N := ⟨_, rfl⟩
    rw [hN]
    have hrl : (r ++ b).length ≤ 2000000000 := by simp; omega
    obtain ⟨l, hl⟩ : ∃ l, r ++ b = l := ⟨_, rfl⟩
    rw [hl] at hrl ⊢
    refine AWP.loop (G := { k : Nat // 64 * k ≤ l.length }) (fun k => ⟨[(0, .ptr 0 0 [])], [.bx (.t (.st [.ar 8 1 ((eatS s l k.1).l.map u32T), .by (l.drop (64 * k.1)), .int .u64 N]))]⟩) (fun k => l.length - 64 * k.1) ⟨0, by omega⟩ ((Wt (And.intro (And.intro @eatS.eq_1 <| @eatS.eq_2) <| @Nat.mul_zero) [0] [0])) ?_
    intro ⟨k, hk⟩
    dsimp only
    have hdl : (l.drop (64 * k)).length = l.length - 64 * k := by simp
    have hnx : eatS s l (k + 1) = blkS (eatS s l k) ((l.drop (64 * k)).take 64) := rfl
    obtain ⟨v, hv⟩ : ∃ v, eatS s l k = v := ⟨_, rfl⟩
    rw [hv] at hnx ⊢
    have hdd : (l.drop (64 * k)).drop 64 = l.drop (64 * (k + 1)) := by rw [List.drop_drop]; congr 1
    obtain ⟨d, hd⟩ : ∃ d, l.drop (64 * k) = d := ⟨_, rfl⟩
    rw [hd] at hdd hdl hnx ⊢
    by_cases h64 : 64 ≤ (d.length : Int)
    · have h64' : 64 ≤ d.length := by omega
      have htl : (d.take 64).length = 64 := by simp; omega
      have htk := take_c2 v d N htl
      repeat refine St (And.intro h64 <| And.intro h64' <| And.intro hdd <| htk) ct15 ?_
      exact ⟨⟨k + 1, by omega⟩, (Wt hnx [0] [0]), by simp only; omega⟩
    · obtain rfl : k = l.length / 64 := by omega
      repeat refine St h64 ct15 ?_
      exact Fin (And.intro hv <| hd) [] [0]

end Go.Fw

end

section
/- Chapter 7: the hash's end. -/
namespace Go.Fw
open Go Go.Proofs
set_option linter.unusedVariables false
set_option linter.unusedSimpArgs false

/-- How many noughts are put behind so many bytes and one. -/
def padK (m : Nat) : Nat := (119 - m % 64) % 64
def beB (N j : Nat) : UInt8 := UInt8.ofNat (N / 2 ^ (56 - 8 * j))
def be8 (N j : Nat) : List UInt8 := (List.range j).map (beB N)
theorem be8_snoc (N j : Nat) : be8 N j ++ [beB N j] = be8 N (j + 1) := by simp [be8, List.range_succ]
theorem be8_len (N j : Nat) : (be8 N j).length = j := by simp [be8]
def padS (r : List UInt8) (n : Nat) : List UInt8 := r ++ (128 :: repl (padK r.length) 0) ++ be8 (n * 8) 8
theorem padS_len (r : List UInt8) (n : Nat) : (padS r n).length % 64 = 0 := by
  simp only [padS, List.length_append, List.length_cons, repl_len, be8_len, padK]; omega

def outB (s : S8) (p : Nat) : UInt8 := ((s.l.getD (p / 4) 0) >>> UInt32.ofNat (24 - 8 * (p % 4))).toUInt8
def outM (s : S8) (p : Nat) : List UInt8 := (List.range 32).map fun j => if j < p then outB s j else 0
def outS (s : S8) : List UInt8 := (List.range 32).map (outB s)
theorem outM_0 (s : S8) : outM s 0 = zby 32 := rfl
theorem outM_32 (s : S8) : outM s 32 = outS s := by
  simp only [outM, outS]
  apply List.map_congr_left
  intro j hj
  rw [if_pos (by simpa using hj)]
theorem outM_len (s : S8) (p : Nat) : (outM s p).length = 32 := by simp [outM]
theorem outM_set (s : S8) {p : Nat} (h : p < 32) : (outM s p).set p (outB s p) = outM s (p + 1) := by
  apply List.ext_getElem
  · simp [outM]
  · intro j h1 h2
    simp only [List.length_set, outM_len] at h1
    rw [List.getElem_set]
    simp only [outM, List.getElem_map, List.getElem_range]
    by_cases e : p = j
    · subst e; simp
    · simp only [e, if_false]
      by_cases h3 : j < p
      · rw [if_pos h3, if_pos (by omega)]
      · rw [if_neg h3, if_neg (by omega)]

/-- The hash of what was taken, and of what is left. -/
def finS (s : S8) (r : List UInt8) (n : Nat) : List UInt8 := outS (eatS s (padS r n) ((padS r n).length / 64))

noncomputable def G16r : GFun
  | [.bx (.t (.st [.ar 8 1 xs, .by r, .int .u64 n]))], [.ptr 0 0 []] => match asS8 xs with
    | some s => if 0 ≤ n ∧ n ≤ 1000000000000 ∧ r.length ≤ 64 then some ([.bx (.t (.st [.ar 8 1 xs, .by r, .int .u64 n]))], .t (.ba 32 (finS s r n.toNat))) else none
    | none => none
  | _, _ => none

theorem ct16 : CT [(14, ⟨[], treeG F14⟩), (28, ⟨[true, false], G28⟩)] [0, 2, 3, 4, 5, 6, 7, 8, 9, 10, 12, 27, 37, 53, 59, 60, 61, 64, 65] [] := ⟨(.cons c14.g (.cons g28 (.nil _)))⟩

theorem beB_eq (n j : Nat) (h : n ≤ 1000000000000) (hj : j < 8) : UInt8.ofNat (IntKind.u8.wrap (Int.fdiv ((n * 8 : Nat) : Int) (2 ^ (min (56 - 8 * j) IntKind.u64.bits)))).toNat = beB (n * 8) j := by
  have e : min (56 - 8 * j) IntKind.u64.bits = 56 - 8 * j := by rw [bits_u64]; omega
  rw [e, Int.fdiv_eq_ediv_of_nonneg _ (by exact_mod_cast Nat.zero_le _)]
  have e2 : (2 : Int) ^ (56 - 8 * j) = ((2 ^ (56 - 8 * j) : Nat) : Int) := by rw [Int.natCast_pow]; rfl
  rw [e2, ← Int.natCast_ediv, wrapu8]
  unfold beB
  generalize n * 8 / 2 ^ (56 - 8 * j) = m
  have : ((m : Int) % 256).toNat = m % 256 := by omega
  rw [this]
  apply UInt8.toNat_inj.1
  simp

set_option maxHeartbeats 2000000 in
theorem g16r : GCon Try.prog 16 G16r := by
  refine gconc E_ok (rs := [.cell 2 24]) Try.func16 rfl Try.ntmps16 (by kernel_rfl) rfl (by decide) G16r (np := 1) ?_ ?_
  · intro HB xs h; unfold G16r; split <;> first | rfl | (simp at h; done)
  intro HB xs H r hG hwf hex
  unfold G16r at hG
  split at hG <;> try (cases hG; done)
  rename_i xs r n
  split at hG
  case h_2 => cases hG
  rename_i s hs
  split at hG
  case isFalse => cases hG
  rename_i hc
  obtain ⟨hn0, hn1, hr⟩ := hc
  cases hG
  obtain rfl := asS8_inv hs
  obtain ⟨N, rfl⟩ : ∃ N : Nat, n = (N : Int) := ⟨n.toNat, by omega⟩
  simp only [Int.toNat_natCast]
  have e128 : ∀ l : List UInt8, (l ++ [128]).length = l.length + 1 := fun l => by simp
  repeat refine St (And.intro (And.intro @gentry.eq_1 <| @gentry.eq_2) <| And.intro hr <| e128) ct16 ?_
  have hp64 : (r ++ UInt8.ofNat 128 :: repl (padK r.length) 0).length % 64 = 56 := by simp only [List.length_append, List.length_cons, repl_len, padK]; omega
  refine AWP.loop (G := { k : Nat // k ≤ padK r.length }) (fun k => ⟨[(0, .ptr 0 0 []), (2, .ptr 1 0 []), (3, .own 2)], [hB s r N, .bx (.t (.ba 32 (zby 32))), .by (r ++ (UInt8.ofNat 128 :: repl k.1 0))]⟩) (fun k => padK r.length - k.1) ⟨0, by omega⟩ ((Wt @repl_0 [0, 2, 3] [0, 1, 5])) ?_
  intro ⟨k, hk⟩
  dsimp only
  obtain ⟨L, hL⟩ : ∃ L, r ++ (UInt8.ofNat 128 :: repl k (0 : UInt8)) = L := ⟨_, rfl⟩
  have hLl : L.length = r.length + 1 + k := by rw [← hL]; simp only [List.length_append, List.length_cons, repl_len]; omega
  have hnx : L ++ [UInt8.ofNat 0] = r ++ (UInt8.ofNat 128 :: repl (k + 1) 0) := by rw [← hL, ← repl_snoc]; simp
  rw [hL]
  have hrem : IntKind.i64.wrap (Int.tmod (L.length : Int) 64) = ((L.length % 64 : Nat) : Int) := by
    have : Int.tmod (L.length : Int) 64 = ((L.length % 64 : Nat) : Int) := by rw [Int.tmod_eq_emod_of_nonneg (by omega)]; omega
    rw [this, wrap_i64 (by omega) (by omega)]
  have hkK : padK r.length = (119 - r.length % 64) % 64 := rfl
  have hLs : L.length ≤ 200 := by omega
  by_cases hd : L.length % 64 = 56
  · have hkk : k = padK r.length := by omega
    have hd' : (((L.length % 64 : Nat) : Int) != 56) = false := by simp; omega
    rw [← hkk] at hp64
    have hpad : padS r N = L ++ be8 (N * 8) 8 := by rw [← hL, hkk]; rfl
    have hmul : IntKind.u64.wrap ((N : Int) * 8) = ((N * 8 : Nat) : Int) := by rw [wrap_u64 (by omega) (by omega)]; omega
    repeat refine St (And.intro hrem <| And.intro hd' <| hmul) ct16 ?_
    have hLs' : L.length ≤ 200 := by omega
    refine AWP.loop (G := { x : Nat × Int // x.1 ≤ 8 ∧ x.2 = 56 - 8 * (x.1 : Int) }) (fun x => ⟨[(0, .ptr 0 0 []), (2, .ptr 1 0 []), (3, .own 2), (4, .t (.int .u64 ((N * 8 : Nat) : Int))), (5, .t (.int .i64 x.1.2))], [hB s r N, .bx (.t (.ba 32 (zby 32))), .by (L ++ be8 (N * 8) x.1.1)]⟩) (fun x => 8 - x.1.1) ⟨(0, 56), by omega, rfl⟩ ((Wt (show be8 (N * 8) 0 = [] from rfl) [0, 2, 3, 4, 5] [0, 1, 2])) ?_
    intro ⟨⟨j, q⟩, hj, hq⟩
    dsimp only at hj hq ⊢
    have hbl := be8_len (N * 8) j
    by_cases hq0 : 0 ≤ q
    · have hj8 : j < 8 := by omega
      have hqn : q = ((56 - 8 * j : Nat) : Int) := by omega
      have hbyte := beB_eq N j (by omega) hj8
      have hqt : q.toNat = 56 - 8 * j := by omega
      have hq0' : ¬ q < 0 := by omega
      have hk8 : IntKind.i64.wrap (q - 8) = q - 8 := wrap_i64 (by omega) (by omega)
      have hal : (L ++ be8 (N * 8) j).length ≤ 300 := by simp [hbl]; omega
      have hsn : (L ++ be8 (N * 8) j) ++ [beB (N * 8) j] = L ++ be8 (N * 8) (j + 1) := by rw [List.append_assoc, be8_snoc]
      obtain ⟨M, hM⟩ : ∃ M, L ++ be8 (N * 8) j = M := ⟨_, rfl⟩
      rw [hM] at hal hsn ⊢
      repeat refine St (And.intro hq0 <| And.intro hq0' <| And.intro hqt <| And.intro hbyte <| And.intro hk8 <| hal) ct16 ?_
      exact ⟨⟨(j + 1, q - 8), by omega, by simp only; omega⟩, (Wt hsn [0, 2, 3, 4, 5] [0, 1, 4]), by simp only; omega⟩
    · obtain rfl : j = 8 := by omega
      rw [← hpad]
      have hpl := padS_len r N
      have hfin : finS s r N = outS (eatS s (padS r N) ((padS r N).length / 64)) := rfl
      have hps : (padS r N).length ≤ 300 := by rw [hpad]; simp [hbl]; omega
      obtain ⟨P, hP⟩ : ∃ P, padS r N = P := ⟨_, rfl⟩
      rw [hP] at hpl hfin hps ⊢
      repeat refine St (And.intro hq0 <| @T.size.eq_def) ct16 ?_
      refine AWP.weak (Weak.freeze 2) ?_
      refine AWP.weak (Weak.thawS (y := .by P) 3 rfl) ?_
      refine AWP.loop (G := { k : Nat // 64 * k ≤ P.length }) (fun k => ⟨[(2, .ptr 1 0 []), (3, .t (.by (P.drop (64 * k.1)))), (6, .ptr 2 0 [])], [hB s r N, .bx (.t (.ba 32 (zby 32))), .bx (.t (.ar 8 1 ((eatS s P k.1).l.map u32T)))]⟩) (fun k => P.length - 64 * k.1) ⟨0, by omega⟩ ((Wt (And.intro @freezeOne.eq_def <| And.intro (And.intro @eatS.eq_1 <| @eatS.eq_2) <| @Nat.mul_zero) [2, 3, 6] [0, 1, 3])) ?_
      intro ⟨k, hk⟩
      dsimp only
      have hdl : (P.drop (64 * k)).length = P.length - 64 * k := by simp
      have hnx : eatS s P (k + 1) = blkS (eatS s P k) ((P.drop (64 * k)).take 64) := rfl
      have hdd : (P.drop (64 * k)).drop 64 = P.drop (64 * (k + 1)) := by rw [List.drop_drop]; congr 1
      obtain ⟨v, hv⟩ : ∃ v, eatS s P k = v := ⟨_, rfl⟩
      obtain ⟨d, hd⟩ : ∃ d, P.drop (64 * k) = d := ⟨_, rfl⟩
      rw [hv, hd] at hnx
      rw [hd] at hdl hdd
      rw [hv, hd]
      by_cases h64 : 0 < (d.length : Int)
      · have h64' : 64 ≤ d.length := by omega
        have h64i : 64 ≤ (d.length : Int) := by omega
        have htl : (d.take 64).length = 64 := by simp; omega
        have htk := take_c1 v htl
        repeat refine St (And.intro h64 <| And.intro h64' <| And.intro h64i <| And.intro hdd <| htk) ct16 ?_
        exact ⟨⟨k + 1, by omega⟩, (Wt hnx [2, 3, 6] [0, 1, 2]), by simp only; omega⟩
      · have hkk : k = P.length / 64 := by omega
        rw [← hkk, hv] at hfin
        repeat refine St h64 ct16 ?_
        refine AWP.loop (G := { i : Nat // i ≤ 8 }) (fun i => ⟨[(2, .ptr 1 0 []), (7, .ptr 2 0 []), (59, .t (.ar 8 1 (v.l.map u32T))), (60, .t (.int .i64 (i.1 : Int)))], [hB s r N, .bx (.t (.ba 32 (zby 32))), .bx (.t (.ba 32 (outM v (4 * i.1))))]⟩) (fun i => 8 - i.1) ⟨0, by omega⟩ ((Wt (And.intro @Nat.mul_zero <| @outM_0) [2, 7, 59, 60] [0, 1, 3])) ?_
        intro ⟨i, hi⟩
        dsimp only
        by_cases hi8 : (i : Int) < 8
        case neg =>
          obtain rfl : i = 8 := by omega
          have ho := outM_32 v
          have hol := outM_len v 32
          repeat refine St (And.intro hi8 <| And.intro @T.size.eq_def <| And.intro (show 4 * 8 = 32 from rfl) <| ho) ct16 ?_
          exact AWP.ret (Fin hfin [] [0])
        have hi8' : i < 8 := by omega
        have hvl : (List.map u32T v.l).length = 8 := rfl
        have hvg := a8_get v i hi8'
        have hki : IntKind.i64.wrap ((i : Int) + 1) = ((i + 1 : Nat) : Int) := by rw [wrap_i64 (by omega) (by omega)]; omega
        repeat refine St (And.intro hi8 <| And.intro hi8' <| And.intro hvl <| hvg) ct16 ?_
        refine AWP.loop (G := { j : Nat // j ≤ 4 }) (fun j => ⟨[(2, .ptr 1 0 []), (7, .ptr 2 0 []), (8, .t (.int .i64 (i : Int))), (9, .t (.int .u32 ((v.l.getD i 0).toNat : Int))), (59, .t (.ar 8 1 (v.l.map u32T))), (60, .t (.int .i64 (i : Int))), (64, .t (.int .i64 (j.1 : Int)))], [hB s r N, .bx (.t (.ba 32 (zby 32))), .bx (.t (.ba 32 (outM v (4 * i + j.1))))]⟩) (fun j => 4 - j.1) ⟨0, by omega⟩ ((Wt trivial [2, 7, 8, 9, 59, 60, 64] [0, 1, 2])) ?_
        intro ⟨j, hj⟩
        dsimp only
        by_cases hj4 : (j : Int) < 4
        · have hj4' : j < 4 := by omega
          have hm4 : IntKind.i64.wrap (4 * (i : Int)) = ((4 * i : Nat) : Int) := by rw [wrap_i64 (by omega) (by omega)]; omega
          have hm4j : IntKind.i64.wrap (((4 * i : Nat) : Int) + (j : Int)) = ((4 * i + j : Nat) : Int) := by rw [wrap_i64 (by omega) (by omega)]; omega
          have hm8 : IntKind.i64.wrap (8 * (j : Int)) = ((8 * j : Nat) : Int) := by rw [wrap_i64 (by omega) (by omega)]; omega
          have hm24 : IntKind.i64.wrap (24 - ((8 * j : Nat) : Int)) = ((24 - 8 * j : Nat) : Int) := by rw [wrap_i64 (by omega) (by omega)]; omega
          have hnn : ¬ ((24 - 8 * j : Nat) : Int) < 0 := by omega
          have hsh := u32_shr (v.l.getD i 0) (24 - 8 * j) (by omega)
          have hob : ((v.l.getD i 0) >>> UInt32.ofNat (24 - 8 * j)).toUInt8 = outB v (4 * i + j) := by
            unfold outB
            rw [show (4 * i + j) / 4 = i by omega, show (4 * i + j) % 4 = j by omega]
          have hp32 : 4 * i + j < 32 := by omega
          have hp32i : ((4 * i + j : Nat) : Int) < 32 := by omega
          have hset := outM_set v hp32
          have hol := outM_len v (4 * i + j)
          have hkj : IntKind.i64.wrap ((j : Int) + 1) = ((j + 1 : Nat) : Int) := by rw [wrap_i64 (by omega) (by omega)]; omega
          have hof : ∀ c : UInt8, UInt8.ofNat c.toNat = c := fun c => by simp
          obtain ⟨p, hp⟩ : ∃ p, 4 * i + j = p := ⟨_, rfl⟩
          have hpn : p + 1 = 4 * i + (j + 1) := by omega
          rw [hp] at hm4j hob hp32 hp32i hset hol ⊢
          repeat refine St (And.intro hj4 <| And.intro hj4' <| And.intro hm4 <| And.intro hm4j <| And.intro hm8 <| And.intro hm24 <| And.intro hnn <| And.intro hsh <| And.intro @u8_of_u32 <| And.intro hob <| And.intro hp32 <| And.intro hp32i <| And.intro hof <| And.intro hset <| And.intro hol <| And.intro hkj <| @T.size.eq_def) ct16 ?_
          exact ⟨⟨j + 1, by omega⟩, (Wt hpn [2, 7, 8, 9, 59, 60, 64] [0, 1, 2]), by simp only; omega⟩
        · obtain rfl : j = 4 := by omega
          have hpn : 4 * i + 4 = 4 * (i + 1) := by omega
          repeat refine St (And.intro hj4 <| hki) ct16 ?_
          exact ⟨⟨i + 1, by omega⟩, (Wt hpn [2, 7, 59, 60] [0, 1, 2]), by simp only; omega⟩
  · have hd' : (((L.length % 64 : Nat) : Int) != 56) = true := by simp; omega
    repeat refine St (And.intro hrem <| And.intro hd' <| hLs) ct16 ?_
    exact ⟨⟨k + 1, by omega⟩, (Wt hnx [0, 2, 3] [0, 1, 4]), by simp only; omega⟩

end Go.Fw

end

section
/- Chapter 7: the hash of a whole message. -/
namespace Go.Fw
open Go Go.Proofs
set_option linter.unusedVariables false
set_option linter.unusedSimpArgs false

theorem eatS_app (s : S8) (l m : List UInt8) : ∀ k, 64 * k ≤ l.length → eatS s (l ++ m) k = eatS s l k
  | 0, _ => rfl
  | k + 1, h => by
    simp only [eatS]
    rw [eatS_app s l m k (by omega), List.drop_append_of_le_length (by omega), List.take_append_of_le_length (by simp; omega)]
theorem eatS_add (s : S8) (l : List UInt8) (k : Nat) : ∀ j, eatS (eatS s l k) (l.drop (64 * k)) j = eatS s l (k + j)
  | 0 => rfl
  | j + 1 => by
    rw [show k + (j + 1) = (k + j) + 1 by omega]
    simp only [eatS]
    rw [eatS_add s l k j, List.drop_drop]
    congr 3; omega

/-- A hash behind some bytes. -/
def restS (l : List UInt8) : List UInt8 := l.drop (64 * (l.length / 64))
def eatenS (l : List UInt8) : S8 := eatS h0S l (l.length / 64)
abbrev msgB (l : List UInt8) : Blk := hB (eatenS l) (restS l) l.length
def shaL (l : List UInt8) : List UInt8 := finS h0S l l.length

theorem restS_len (l : List UInt8) : (restS l).length ≤ 64 := by simp [restS]; omega
theorem rest_app (l b : List UInt8) : restS l ++ b = (l ++ b).drop (64 * (l.length / 64)) := by
  unfold restS; rw [List.drop_append_of_le_length (by omega)]

theorem write_c (l b : List UInt8) (h : l.length ≤ 1000000000000) (hb : b.length ≤ 1000000000) :
    G15 [.bx (.t (.st [.ar 8 1 ((eatenS l).l.map u32T), .by (restS l), .int .u64 (l.length : Int)]))] [.ptr 0 0 [], .t (.by b)] = some ([msgB (l ++ b)], .tup []) := by
  simp only [G15, asS8_map]
  rw [if_pos ⟨by omega, by omega, restS_len l, hb⟩]
  have hq : (l ++ b).length / 64 = l.length / 64 + (restS l ++ b).length / 64 := by simp [restS]; omega
  have h1 : eatS (eatenS l) (restS l ++ b) ((restS l ++ b).length / 64) = eatenS (l ++ b) := by
    unfold eatenS
    rw [hq, ← eatS_add, rest_app l b, eatS_app h0S l b _ (by omega)]
  have h2 : (restS l ++ b).drop (64 * ((restS l ++ b).length / 64)) = restS (l ++ b) := by
    show _ = (l ++ b).drop (64 * ((l ++ b).length / 64))
    rw [hq, rest_app l b, List.drop_drop]; congr 1; omega
  rw [h1, h2]
  simp only [msgB, hB, List.length_append, Int.natCast_add]

theorem fin_c (l : List UInt8) : finS (eatenS l) (restS l) l.length = shaL l := by
  have hk : padK (restS l).length = padK l.length := by simp [restS, padK]; omega
  have hp : padS (restS l) l.length = (padS l l.length).drop (64 * (l.length / 64)) := by
    simp only [padS, hk]
    rw [List.append_assoc, rest_app, List.append_assoc]
  have hl : (padS l l.length).length / 64 = l.length / 64 + (padS (restS l) l.length).length / 64 := by
    rw [hp]
    have : l.length ≤ (padS l l.length).length := by simp only [padS, List.length_append]; omega
    simp only [List.length_drop]; omega
  have he : eatenS l = eatS h0S (padS l l.length) (l.length / 64) := by
    simp only [eatenS, padS]
    rw [List.append_assoc, eatS_app h0S l _ _ (by omega)]
  simp only [shaL, finS]
  rw [hl, ← eatS_add, ← he, ← hp]

noncomputable def G16 : GFun
  | [], [.t .nilp] => some ([], .t (.ba 32 (shaL [])))
  | [.bx (.t (.st [.ar 8 1 xs, .by r, .int .u64 n]))], [.ptr 0 0 []] => G16r [.bx (.t (.st [.ar 8 1 xs, .by r, .int .u64 n]))] [.ptr 0 0 []]
  | _, _ => none

theorem sum_c (l : List UInt8) (h : l.length ≤ 1000000000000) :
    G16r [.bx (.t (.st [.ar 8 1 ((eatenS l).l.map u32T), .by (restS l), .int .u64 (l.length : Int)]))] [.ptr 0 0 []] = some ([msgB l], .t (.ba 32 (shaL l))) := by
  simp only [G16r, asS8_map]
  rw [if_pos ⟨by omega, by omega, restS_len l⟩, Int.toNat_natCast, fin_c]
theorem sum_0 : G16r [.bx (.t (.st [.ar 8 1 (hS.map u32T), .by [], .int .u64 0]))] [.ptr 0 0 []] = some ([.bx (.t (.st [.ar 8 1 (hS.map u32T), .by [], .int .u64 0]))], .t (.ba 32 (shaL []))) := sum_c [] (by simp)

theorem ct16b : CT [(14, ⟨[], treeG F14⟩), (16, ⟨[true], G16r⟩), (28, ⟨[true, false], G28⟩)] [0, 2, 3, 4, 5, 6, 7, 8, 9, 10, 12, 27, 37, 53, 59, 60, 61, 64, 65] [] := ⟨(.cons c14.g (.cons g16r (.cons g28 (.nil _))))⟩

noncomputable def G16n : GFun
  | [], [.t .nilp] => some ([], .t (.ba 32 (shaL [])))
  | _, _ => none

theorem g16n : GCon Try.prog 16 G16n := by
  refine gconc E_ok (rs := [.cell 2 24]) Try.func16 rfl Try.ntmps16 (by kernel_rfl) rfl (by decide) G16n (np := 1) ?_ ?_
  · intro HB xs h; unfold G16n; split <;> first | rfl | (simp at h; done)
  intro HB xs H r hG hwf hex
  unfold G16n at hG
  split at hG <;> try (cases hG; done)
  
  cases hG
  repeat refine St (And.intro @F14.eq_def <| And.intro (And.intro @gentry.eq_1 <| @gentry.eq_2) <| @sum_0) ct16b ?_
  exact AWP.ret (Fin trivial [] [])


theorem g16 : GCon Try.prog 16 G16 := by
  refine ⟨g16r.1, fun HB xs H' r hG => ?_⟩
  unfold G16 at hG
  split at hG
  · exact g16n.2 [] [.t .nilp] H' r hG
  · exact g16r.2 _ _ H' r hG
  · cases hG

end Go.Fw

end

section
/- Chapter 7: Sum, Double, Tagged. -/
namespace Go.Fw
open Go Go.Proofs
set_option linter.unusedVariables false
set_option linter.unusedSimpArgs false

theorem shaL_len (l : List UInt8) : (shaL l).length = 32 := by simp [shaL, finS, outS]

noncomputable def F11 : Fun
  | [.by b] => if b.length ≤ 1000000000 then some ([], .t (.ba 32 (shaL b))) else none
  | _ => none

theorem ct11 : CT [(14, ⟨[], treeG F14⟩), (15, ⟨[true, false], G15⟩), (16, ⟨[true], G16⟩)] [0, 2, 3] [] := ⟨(.cons c14.g (.cons g15 (.cons g16 (.nil _))))⟩

theorem msg_0 : msgB [] = .bx (.t (.st [.ar 8 1 (hS.map u32T), .by [], .int .u64 0])) := rfl

theorem c11 : ACon Try.prog 11 F11 := by
  refine aconc E_ok (rs := [.cell 2 24]) Try.func11 rfl Try.ntmps11 (by kernel_rfl) rfl (by decide) F11 (np := 1) ?_ ?_
  · intro ts h; unfold F11; split <;> first | rfl | (simp at h; done)
  intro ts H r hF hwf
  unfold F11 at hF
  split at hF <;> try (cases hF; done)
  rename_i b
  split at hF
  case isFalse => cases hF
  rename_i hb
  cases hF
  have hw : G15 [.bx (.t (.st [.ar 8 1 (hS.map u32T), .by [], .int .u64 0]))] [.ptr 0 0 [], .t (.by b)] = some ([msgB b], .tup []) := write_c [] b (by simp) hb
  have hs : G16 [msgB b] [.ptr 0 0 []] = some ([msgB b], .t (.ba 32 (shaL b))) := sum_c b (by omega)
  repeat refine St (And.intro @F14.eq_def <| hw) ct11 ?_
  repeat refine St hs ct11 ?_
  exact AWP.ret (Fin trivial [] [])

theorem shasum_c {b : List UInt8} (h : b.length ≤ 1000000000) : F11 [.by b] = some ([], .t (.ba 32 (shaL b))) := if_pos h

noncomputable def F18 : Fun
  | [.by b] => if b.length ≤ 1000000000 then some ([], .t (.ba 32 (shaL (shaL b)))) else none
  | _ => none

theorem ct18 : CT [(11, ⟨[false], treeG F11⟩)] [0, 2, 3] [] := ⟨(.cons c11.g (.nil _))⟩

theorem c18 : ACon Try.prog 18 F18 := by
  refine aconc E_ok (rs := [.cell 2 24]) Try.func18 rfl Try.ntmps18 (by kernel_rfl) rfl (by decide) F18 (np := 1) ?_ ?_
  · intro ts h; unfold F18; split <;> first | rfl | (simp at h; done)
  intro ts H r hF hwf
  unfold F18 at hF
  split at hF <;> try (cases hF; done)
  rename_i b
  split at hF
  case isFalse => cases hF
  rename_i hb
  cases hF
  have h1 := shasum_c hb
  have hl := shaL_len b
  have h2 : F11 [.by (shaL b)] = some ([], .t (.ba 32 (shaL (shaL b)))) := shasum_c (by omega)
  generalize shaL (shaL b) = y at *
  obtain ⟨x, hx⟩ : ∃ x, shaL b = x := ⟨_, rfl⟩
  rw [hx] at h1 hl h2
  have ht : x.take 32 = x := List.take_of_length_le (by omega)
  repeat refine St (And.intro h1 <| And.intro hl <| And.intro h2 <| ht) ct18 ?_
  exact AWP.ret (Fin trivial [] [])

/-- The hash of bytes behind a tag. -/
def tagL (tag b : List UInt8) : List UInt8 := shaL (shaL tag ++ shaL tag ++ b)

theorem write_c' {l b : List UInt8} (h : l.length ≤ 1000000000000) (hb : b.length ≤ 1000000000) :
    G15 [msgB l] [.ptr 0 0 [], .t (.by b)] = some ([msgB (l ++ b)], .tup []) := write_c l b h hb

noncomputable def F20 : Fun
  | [.str tag, .by b] => if b.length ≤ 1000000000 ∧ tag.length ≤ 1000000000 then some ([], .t (.ba 32 (tagL tag b))) else none
  | _ => none

theorem ct20 : CT [(11, ⟨[false], treeG F11⟩), (14, ⟨[], treeG F14⟩), (15, ⟨[true, false], G15⟩), (16, ⟨[true], G16⟩)] [0, 1, 4, 5, 6] [] := ⟨(.cons c11.g (.cons c14.g (.cons g15 (.cons g16 (.nil _)))))⟩

set_option maxHeartbeats 1000000 in
theorem c20 : ACon Try.prog 20 F20 := by
  refine aconc E_ok (rs := [.cell 4 24]) Try.func20 rfl Try.ntmps20 (by kernel_rfl) rfl (by decide) F20 (np := 2) ?_ ?_
  · intro ts h; unfold F20; split <;> first | rfl | (simp at h; done)
  intro ts H r hF hwf
  unfold F20 at hF
  split at hF <;> try (cases hF; done)
  rename_i tag b
  split at hF
  case isFalse => cases hF
  rename_i hc
  obtain ⟨hb, ht⟩ := hc
  cases hF
  have h1 := shasum_c ht
  have hl := shaL_len tag
  unfold tagL
  obtain ⟨x, hx⟩ : ∃ x, shaL tag = x := ⟨_, rfl⟩
  rw [hx] at h1 hl ⊢
  have hw1 : G15 [.bx (.t (.st [.ar 8 1 (hS.map u32T), .by [], .int .u64 0]))] [.ptr 0 0 [], .t (.by x)] = some ([msgB x], .tup []) := write_c [] x (by simp) (by omega)
  have hw2 : G15 [msgB x] [.ptr 0 0 [], .t (.by x)] = some ([msgB (x ++ x)], .tup []) := write_c' (by omega) (by omega)
  have hw3 : G15 [msgB (x ++ x)] [.ptr 0 0 [], .t (.by b)] = some ([msgB (x ++ x ++ b)], .tup []) := write_c' (by simp; omega) hb
  have hs : G16 [msgB (x ++ x ++ b)] [.ptr 0 0 []] = some ([msgB (x ++ x ++ b)], .t (.ba 32 (shaL (x ++ x ++ b)))) := sum_c (x ++ x ++ b) (by simp; omega)
  have htag : tag.length ≤ 281474976710656 := by omega
  have ht : x.take 32 = x := List.take_of_length_le (by omega)
  repeat refine St (And.intro @F14.eq_def <| And.intro h1 <| And.intro ht <| And.intro hw1 <| And.intro hw2 <| And.intro hw3 <| And.intro hs <| htag) ct20 ?_
  exact AWP.ret (Fin trivial [] [])

end Go.Fw

end

section
/- Chapter 7's answer: turning, padding. -/
namespace Go.Fw
open Go Go.Proofs
set_option linter.unusedVariables false
set_option linter.unusedSimpArgs false

theorem wordR (a b c d : UInt32) : ((a <<< 8 ||| b) <<< 8 ||| c) <<< 8 ||| d = a <<< 24 ||| b <<< 16 ||| c <<< 8 ||| d := by
  have h1 : ∀ x : UInt32, x <<< 8 <<< 8 = x <<< 16 := fun x => by
    rw [← UInt32.shiftLeft_add (by decide) (by decide) (by decide)]; rfl
  have h2 : ∀ x : UInt32, x <<< 16 <<< 8 = x <<< 24 := fun x => by
    rw [← UInt32.shiftLeft_add (by decide) (by decide) (by decide)]; rfl
  simp only [UInt32.shiftLeft_or, h1, h2]

def F29 : Fun
  | [.int .u32 n, .int .u64 k] => if 1 ≤ k ∧ k ≤ 31 then some ([], .t (u32T (tr (UInt32.ofNat n.toNat) k.toNat))) else none
  | _ => none

theorem ct29 : CT [] [0, 1, 4] [] := ⟨GClOk.nil _⟩

theorem c29 : ACon Try.prog 29 F29 := by
  refine aconc E_ok (rs := [.tmp 4 38]) Try.func29 rfl Try.ntmps29 (by kernel_rfl) rfl (by decide) F29 (np := 2) ?_ ?_
  · intro ts h; unfold F29; split <;> first | rfl | (simp at h; done)
  intro ts H r hF hwf
  unfold F29 at hF
  split at hF <;> try (cases hF; done)
  rename_i n k
  split at hF
  case isFalse => cases hF
  rename_i hc
  obtain ⟨h1, h2⟩ := hc
  cases hF
  have hn := u32_of (by have := hwf _ (List.mem_cons_self); simpa only [T.wf] using this : inK .u32 n)
  generalize UInt32.ofNat n.toNat = x at *
  subst hn
  obtain ⟨r, rfl⟩ : ∃ r : Nat, k = (r : Int) := ⟨k.toNat, by omega⟩
  have hk : IntKind.u64.wrap (32 - (r : Int)) = ((32 - r : Nat) : Int) := by rw [wrap_u64 (by omega) (by omega)]; omega
  have h4 := u32_shl x (32 - r) (by omega)
  have h5 := u32_shr x r (by omega)
  have e0 : ¬ (r : Int) < 0 := by omega
  have e1 : ¬ ((32 - r : Nat) : Int) < 0 := by omega
  repeat refine St (And.intro hk <| And.intro e0 <| And.intro e1 <| And.intro h4 <| And.intro h5 <| @u32_or) ct29 ?_
  exact AWP.ret (Fin (And.intro @u32T.eq_def <| @tr.eq_def) [] [])

theorem turn_c (x : UInt32) (r : Nat) (h : 1 ≤ r) (h1 : r ≤ 31) : F29 [.int .u32 (x.toNat : Int), .int .u64 (r : Int)] = some ([], .t (.int .u32 ((tr x r).toNat : Int))) := by
  simp only [F29]
  rw [if_pos ⟨by omega, by omega⟩]
  simp [u32T]
theorem turn2 (x : UInt32) : F29 [.int .u32 (x.toNat : Int), .int .u64 2] = some ([], .t (.int .u32 ((tr x 2).toNat : Int))) := turn_c x 2 (by omega) (by omega)
theorem turn6 (x : UInt32) : F29 [.int .u32 (x.toNat : Int), .int .u64 6] = some ([], .t (.int .u32 ((tr x 6).toNat : Int))) := turn_c x 6 (by omega) (by omega)
theorem turn7 (x : UInt32) : F29 [.int .u32 (x.toNat : Int), .int .u64 7] = some ([], .t (.int .u32 ((tr x 7).toNat : Int))) := turn_c x 7 (by omega) (by omega)
theorem turn11 (x : UInt32) : F29 [.int .u32 (x.toNat : Int), .int .u64 11] = some ([], .t (.int .u32 ((tr x 11).toNat : Int))) := turn_c x 11 (by omega) (by omega)
theorem turn13 (x : UInt32) : F29 [.int .u32 (x.toNat : Int), .int .u64 13] = some ([], .t (.int .u32 ((tr x 13).toNat : Int))) := turn_c x 13 (by omega) (by omega)
theorem turn17 (x : UInt32) : F29 [.int .u32 (x.toNat : Int), .int .u64 17] = some ([], .t (.int .u32 ((tr x 17).toNat : Int))) := turn_c x 17 (by omega) (by omega)
theorem turn18 (x : UInt32) : F29 [.int .u32 (x.toNat : Int), .int .u64 18] = some ([], .t (.int .u32 ((tr x 18).toNat : Int))) := turn_c x 18 (by omega) (by omega)
theorem turn19 (x : UInt32) : F29 [.int .u32 (x.toNat : Int), .int .u64 19] = some ([], .t (.int .u32 ((tr x 19).toNat : Int))) := turn_c x 19 (by omega) (by omega)
theorem turn22 (x : UInt32) : F29 [.int .u32 (x.toNat : Int), .int .u64 22] = some ([], .t (.int .u32 ((tr x 22).toNat : Int))) := turn_c x 22 (by omega) (by omega)
theorem turn25 (x : UInt32) : F29 [.int .u32 (x.toNat : Int), .int .u64 25] = some ([], .t (.int .u32 ((tr x 25).toNat : Int))) := turn_c x 25 (by omega) (by omega)

def F23 : Fun
  | [.by b] => if b.length ≤ 1000000000 then some ([.by (padS b b.length)], .own 0) else none
  | _ => none

theorem ct23 : CT [] [0, 2, 3, 4, 5, 15, 24] [] := ⟨GClOk.nil _⟩

theorem c23 : ACon Try.prog 23 F23 := by
  refine aconc E_ok (rs := [.tmp 2 22]) Try.func23 rfl Try.ntmps23 (by kernel_rfl) rfl (by decide) F23 (np := 1) ?_ ?_
  · intro ts h; unfold F23; split <;> first | rfl | (simp at h; done)
  intro ts H r hF hwf
  unfold F23 at hF
  split at hF <;> try (cases hF; done)
  rename_i r
  split at hF
  case isFalse => cases hF
  rename_i hc
  have hr := hc
  cases hF
  have e128 : ∀ l : List UInt8, (l ++ [128]).length = l.length + 1 := fun l => by simp
  repeat refine St (And.intro hr <| e128) ct23 ?_
  have hp64 : (r ++ UInt8.ofNat 128 :: repl (padK r.length) 0).length % 64 = 56 := by simp only [List.length_append, List.length_cons, repl_len, padK]; omega
  refine AWP.loop (G := { k : Nat // k ≤ padK r.length }) (fun k => ⟨[(0, .t (.by r)), (3, .own 0)], [.by (r ++ (UInt8.ofNat 128 :: repl k.1 0))]⟩) (fun k => padK r.length - k.1) ⟨0, by omega⟩ (Wt @repl_0 [0, 3] [3]) ?_
  intro ⟨k, hk⟩
  dsimp only
  obtain ⟨L, hL⟩ : ∃ L, r ++ (UInt8.ofNat 128 :: repl k (0 : UInt8)) = L := ⟨_, rfl⟩
  have hLl : L.length = r.length + 1 + k := by rw [← hL]; simp only [List.length_append, List.length_cons, repl_len]; omega
  have hnx : L ++ [UInt8.ofNat 0] = r ++ (UInt8.ofNat 128 :: repl (k + 1) 0) := by rw [← hL, ← repl_snoc]; simp
  rw [hL]
  have hrem : IntKind.i64.wrap (Int.tmod (L.length : Int) 64) = ((L.length % 64 : Nat) : Int) := by
    have : Int.tmod (L.length : Int) 64 = ((L.length % 64 : Nat) : Int) := by rw [Int.tmod_eq_emod_of_nonneg (by omega)]; omega
    rw [this, wrap_i64 (by omega) (by omega)]
  have hkK : padK r.length = (119 - r.length % 64) % 64 := rfl
  by_cases hd : L.length % 64 = 56
  · have hkk : k = padK r.length := by omega
    have hd' : (((L.length % 64 : Nat) : Int) != 56) = false := by simp; omega
    rw [← hkk] at hp64
    have hpad : padS r r.length = L ++ be8 (r.length * 8) 8 := by rw [← hL, hkk]; rfl
    have hcv : IntKind.u64.wrap (r.length : Int) = (r.length : Int) := wrap_u64 (by omega) (by omega)
    have hmul : IntKind.u64.wrap ((r.length : Int) * 8) = ((r.length * 8 : Nat) : Int) := by rw [wrap_u64 (by omega) (by omega)]; omega
    repeat refine St (And.intro hrem <| And.intro hd' <| And.intro hcv <| hmul) ct23 ?_
    refine AWP.loop (G := { j : Nat // j ≤ 8 }) (fun j => ⟨[(3, .own 0), (4, .t (.int .u64 ((r.length * 8 : Nat) : Int))), (5, .t (.int .i64 (j.1 : Int)))], [.by (L ++ be8 (r.length * 8) j.1)]⟩) (fun j => 8 - j.1) ⟨0, by omega⟩ (Wt (show be8 (r.length * 8) 0 = [] from rfl) [3, 4, 5] [0]) ?_
    intro ⟨j, hj⟩
    dsimp only
    have hbl := be8_len (r.length * 8) j
    by_cases hj8 : (j : Int) < 8
    · have hbyte := beB_eq r.length j (by omega) (by omega)
      have hm1 : IntKind.i64.wrap (8 * (j : Int)) = ((8 * j : Nat) : Int) := by rw [wrap_i64 (by omega) (by omega)]; omega
      have hm2 : IntKind.i64.wrap (56 - ((8 * j : Nat) : Int)) = ((56 - 8 * j : Nat) : Int) := by rw [wrap_i64 (by omega) (by omega)]; omega
      have hm3 : IntKind.u64.wrap ((56 - 8 * j : Nat) : Int) = ((56 - 8 * j : Nat) : Int) := wrap_u64 (by omega) (by omega)
      have hnn : ¬ ((56 - 8 * j : Nat) : Int) < 0 := by omega
      have hk8 : IntKind.i64.wrap ((j : Int) + 1) = ((j + 1 : Nat) : Int) := by rw [wrap_i64 (by omega) (by omega)]; omega
      have hsn : (L ++ be8 (r.length * 8) j) ++ [beB (r.length * 8) j] = L ++ be8 (r.length * 8) (j + 1) := by rw [List.append_assoc, be8_snoc]
      have hal : (L ++ be8 (r.length * 8) j).length ≤ 1000000300 := by simp [hbl]; omega
      obtain ⟨M, hM⟩ : ∃ M, L ++ be8 (r.length * 8) j = M := ⟨_, rfl⟩
      rw [hM] at hal hsn ⊢
      repeat refine St (And.intro hj8 <| And.intro hm1 <| And.intro hm2 <| And.intro hm3 <| And.intro hnn <| And.intro hbyte <| And.intro hk8 <| hal) ct23 ?_
      exact ⟨⟨j + 1, by omega⟩, (Wt hsn [3, 4, 5] [2]), by simp only; omega⟩
    · obtain rfl : j = 8 := by omega
      rw [← hpad]
      repeat refine St hj8 ct23 ?_
      exact AWP.ret (Fin trivial [] [0])
  · have hd' : (((L.length % 64 : Nat) : Int) != 56) = true := by simp; omega
    have hLs : L.length ≤ 1000000200 := by omega
    repeat refine St (And.intro hrem <| And.intro hd' <| hLs) ct23 ?_
    exact ⟨⟨k + 1, by omega⟩, (Wt hnx [0, 3] [2]), by simp only; omega⟩

end Go.Fw

end

section
/- Chapter 7's answer: a block. -/
namespace Go.Fw
open Go Go.Proofs
set_option linter.unusedVariables false
set_option linter.unusedSimpArgs false

/-- The first so many numbers added to. -/
def mixV (s v : S8) (i : Nat) : List T := ((s.add v).l.take i ++ v.l.drop i).map u32T
theorem mixV_len (s v : S8) : ∀ i, i ≤ 8 → (mixV s v i).length = 8
  | 0, _ => rfl | 1, _ => rfl | 2, _ => rfl | 3, _ => rfl | 4, _ => rfl | 5, _ => rfl | 6, _ => rfl | 7, _ => rfl | 8, _ => rfl
  | i + 9, h => by omega
theorem mixV_get (s v : S8) : ∀ i, i < 8 → (mixV s v i).getD i default = .int .u32 ((v.l.getD i 0).toNat : Int)
  | 0, _ => rfl | 1, _ => rfl | 2, _ => rfl | 3, _ => rfl | 4, _ => rfl | 5, _ => rfl | 6, _ => rfl | 7, _ => rfl
  | i + 8, h => by omega
theorem mixV_set0 (s v : S8) : ∀ i, i < 8 → (mixV s v i).set i (.int .u32 ((s.l.getD i 0 + v.l.getD i 0).toNat : Int)) = mixV s v (i + 1)
  | 0, _ => rfl | 1, _ => rfl | 2, _ => rfl | 3, _ => rfl | 4, _ => rfl | 5, _ => rfl | 6, _ => rfl | 7, _ => rfl
  | i + 8, h => by omega
theorem mixV_set (s v : S8) (i : Nat) (h : i < 8) : (mixV s v i).set i (.int .u32 ((v.l.getD i 0 + s.l.getD i 0).toNat : Int)) = mixV s v (i + 1) := by
  rw [UInt32.add_comm]; exact mixV_set0 s v i h
theorem mixV_0 (s v : S8) : mixV s v 0 = a8 v := rfl
theorem mixV_8 (s v : S8) : mixV s v 8 = (s.add v).l.map u32T := rfl
theorem clean_u32 (l : List UInt32) : T.cleanL (l.map u32T) = true := by
  induction l with
  | nil => rfl
  | cons x l ih => simp only [List.map_cons, T.cleanL, ih]; rfl
theorem sch_snoc (b : List UInt8) (t : Nat) : (sch b (t + 1)).map u32T = (sch b t).map u32T ++ [u32T (next b (sch b t) t)] := by simp [sch]

open Classical in
noncomputable def F24 : Fun
  | [.sq 1 hs, .sq 1 ks, .by b] => match asS8 hs with
    | some s => if ks = kS.map u32T ∧ b.length = 64 then some ([.sq 1 ((blkS s b).l.map u32T)], .own 0) else none
    | none => none
  | _ => none

theorem block_c (s : S8) {b : List UInt8} (h : b.length = 64) : F24 [.sq 1 (s.l.map u32T), .sq 1 (kS.map u32T), .by b] = some ([.sq 1 ((blkS s b).l.map u32T)], .own 0) := by
  simp only [F24, asS8_map]; rw [if_pos ⟨trivial, h⟩]

theorem ct24 : CT [(29, ⟨[false, false], treeG F29⟩)] [0, 1, 2, 6, 7, 8, 9, 10, 11, 12, 13, 14, 15, 16, 17, 18, 19, 20, 23, 27, 112, 211] [(6, (List.cons (⟨0, [7], []⟩ : Info) <| List.cons (⟨0, [2], []⟩ : Info) <| List.cons (⟨0, [8], []⟩ : Info) <| List.cons (⟨0, [30], []⟩ : Info) <| List.cons (⟨1, [29, 31], []⟩ : Info) <| List.cons (⟨1, [32], [4]⟩ : Info) <| List.cons (⟨1, [33], [4, 5]⟩ : Info) <| List.cons (⟨0, [34], [4, 5, 6]⟩ : Info) <| List.cons (⟨0, [2], []⟩ : Info) <| List.cons (⟨0, [8], []⟩ : Info) <| List.cons (⟨0, [37], []⟩ : Info) <| List.cons (⟨0, [38], []⟩ : Info) <| List.cons (⟨1, [36, 39], []⟩ : Info) <| List.cons (⟨1, [40], [12]⟩ : Info) <| List.cons (⟨1, [41], [12, 13]⟩ : Info) <| List.cons (⟨0, [42], [12, 13, 14]⟩ : Info) <| List.cons (⟨0, [35, 43], [4, 5, 6, 12, 13, 14]⟩ : Info) <| List.cons (⟨0, [2], []⟩ : Info) <| List.cons (⟨0, [8], []⟩ : Info) <| List.cons (⟨0, [46], []⟩ : Info) <| List.cons (⟨0, [47], []⟩ : Info) <| List.cons (⟨1, [45, 48], []⟩ : Info) <| List.cons (⟨1, [49], [21]⟩ : Info) <| List.cons (⟨1, [50], [21, 22]⟩ : Info) <| List.cons (⟨0, [51], [21, 22, 23]⟩ : Info) <| List.cons (⟨0, [44, 52], [4, 5, 6, 12, 13, 14, 21, 22, 23]⟩ : Info) <| List.cons (⟨0, [2], []⟩ : Info) <| List.cons (⟨0, [8], []⟩ : Info) <| List.cons (⟨0, [55], []⟩ : Info) <| List.cons (⟨0, [56], []⟩ : Info) <| List.cons (⟨1, [54, 57], []⟩ : Info) <| List.cons (⟨1, [58], [30]⟩ : Info) <| List.cons (⟨1, [59], [30, 31]⟩ : Info) <| List.cons (⟨0, [53, 60], [4, 5, 6, 12, 13, 14, 21, 22, 23, 30, 31, 32]⟩ : Info) <| List.cons (⟨1, [61], [4, 5, 6, 12, 13, 14, 21, 22, 23, 30, 31, 32]⟩ : Info) <| List.cons (⟨2, [28, 62], [4, 5, 6, 12, 13, 14, 21, 22, 23, 30, 31, 32, 34]⟩ : Info) <| List.cons (⟨0, [63], [4, 5, 6, 12, 13, 14, 21, 22, 23, 30, 31, 32, 34, 35]⟩ : Info) <| [])), (7, [⟨0, [7], []⟩, ⟨0, [8], []⟩, ⟨0, [65], []⟩, ⟨1, [64, 66], []⟩, ⟨1, [67], [3]⟩, ⟨0, [7], []⟩, ⟨0, [8], []⟩, ⟨0, [70], []⟩, ⟨1, [69, 71], []⟩, ⟨1, [72], [8]⟩, ⟨0, [68], [3, 4]⟩, ⟨0, [73], [3, 4, 8, 9]⟩]), (10, [⟨0, [7], []⟩, ⟨0, [12], []⟩, ⟨0, [7], []⟩, ⟨0, [8], []⟩, ⟨0, [93], []⟩, ⟨1, [92, 94], []⟩, ⟨1, [95], [5]⟩, ⟨0, [91, 96], [5, 6]⟩, ⟨0, [11], []⟩, ⟨0, [97, 98], [5, 6]⟩, ⟨0, [7], []⟩, ⟨0, [8], []⟩, ⟨0, [101], []⟩, ⟨1, [100, 102], []⟩, ⟨1, [103], [13]⟩, ⟨0, [99, 104], [5, 6, 13, 14]⟩, ⟨1, [105], [5, 6, 13, 14]⟩, ⟨2, [90, 106], [5, 6, 13, 14, 16]⟩, ⟨0, [107], [5, 6, 13, 14, 16, 17]⟩]), (15, [⟨0, [13], []⟩, ⟨1, [115], []⟩, ⟨1, [116], [1]⟩, ⟨0, [13], []⟩, ⟨1, [118], []⟩, ⟨1, [119], [4]⟩, ⟨0, [13], []⟩, ⟨1, [121], []⟩, ⟨1, [122], [7]⟩, ⟨0, [117], [1, 2]⟩, ⟨0, [120], [1, 2, 4, 5]⟩, ⟨0, [123], [1, 2, 4, 5, 7, 8]⟩]), (16, (List.cons (⟨0, [13], []⟩ : Info) <| List.cons (⟨1, [124], []⟩ : Info) <| List.cons (⟨1, [125], [1]⟩ : Info) <| List.cons (⟨0, [17], []⟩ : Info) <| List.cons (⟨1, [127], []⟩ : Info) <| List.cons (⟨0, [17], []⟩ : Info) <| List.cons (⟨1, [129], [4]⟩ : Info) <| List.cons (⟨0, [128, 130], [4, 6]⟩ : Info) <| List.cons (⟨0, [17], []⟩ : Info) <| List.cons (⟨1, [132], [4, 6]⟩ : Info) <| List.cons (⟨0, [131, 133], [4, 6, 9]⟩ : Info) <| List.cons (⟨0, [126, 134], [1, 2, 4, 6, 9]⟩ : Info) <| List.cons (⟨0, [17], []⟩ : Info) <| List.cons (⟨0, [13], []⟩ : Info) <| List.cons (⟨1, [137], []⟩ : Info) <| List.cons (⟨1, [138], [14]⟩ : Info) <| List.cons (⟨0, [136, 139], [14, 15]⟩ : Info) <| List.cons (⟨0, [17], []⟩ : Info) <| List.cons (⟨0, [141], []⟩ : Info) <| List.cons (⟨0, [13], []⟩ : Info) <| List.cons (⟨1, [143], []⟩ : Info) <| List.cons (⟨1, [144], [20]⟩ : Info) <| List.cons (⟨0, [142, 145], [20, 21]⟩ : Info) <| List.cons (⟨0, [140, 146], [14, 15, 20, 21]⟩ : Info) <| List.cons (⟨0, [135, 147], [1, 2, 4, 6, 9, 14, 15, 20, 21]⟩ : Info) <| List.cons (⟨0, [1], []⟩ : Info) <| List.cons (⟨0, [14], []⟩ : Info) <| List.cons (⟨1, [149, 150], []⟩ : Info) <| List.cons (⟨1, [151], [27]⟩ : Info) <| List.cons (⟨0, [148, 152], [1, 2, 4, 6, 9, 14, 15, 20, 21, 27, 28]⟩ : Info) <| List.cons (⟨0, [7], []⟩ : Info) <| List.cons (⟨0, [14], []⟩ : Info) <| List.cons (⟨1, [154, 155], []⟩ : Info) <| List.cons (⟨1, [156], [32]⟩ : Info) <| List.cons (⟨0, [153, 157], [1, 2, 4, 6, 9, 14, 15, 20, 21, 27, 28, 32, 33]⟩ : Info) <| List.cons (⟨0, [158], [1, 2, 4, 6, 9, 14, 15, 20, 21, 27, 28, 32, 33]⟩ : Info) <| [])), (17, [⟨0, [15], []⟩, ⟨1, [159], []⟩, ⟨0, [15], []⟩, ⟨1, [161], [1]⟩, ⟨0, [160, 162], [1, 3]⟩, ⟨0, [15], []⟩, ⟨1, [164], [1, 3]⟩, ⟨0, [163, 165], [1, 3, 6]⟩, ⟨0, [15], []⟩, ⟨0, [13], []⟩, ⟨1, [168], []⟩, ⟨1, [169], [10]⟩, ⟨0, [167, 170], [10, 11]⟩, ⟨0, [15], []⟩, ⟨0, [16], []⟩, ⟨0, [172, 173], []⟩, ⟨0, [171, 174], [10, 11]⟩, ⟨0, [13], []⟩, ⟨1, [176], []⟩, ⟨1, [177], [18]⟩, ⟨0, [16], []⟩, ⟨0, [178, 179], [18, 19]⟩, ⟨0, [175, 180], [10, 11, 18, 19]⟩, ⟨0, [166, 181], [1, 3, 6, 10, 11, 18, 19]⟩, ⟨0, [182], [1, 3, 6, 10, 11, 18, 19]⟩]), (18, [⟨0, [18], []⟩, ⟨0, [19], []⟩, ⟨0, [183, 184], []⟩, ⟨0, [13], []⟩, ⟨1, [186], []⟩, ⟨1, [187], [4]⟩, ⟨0, [13], []⟩, ⟨1, [189], []⟩, ⟨1, [190], [7]⟩, ⟨0, [13], []⟩, ⟨1, [192], []⟩, ⟨1, [193], [10]⟩, ⟨0, [13], []⟩, ⟨1, [195], []⟩, ⟨1, [196], [13]⟩, ⟨0, [18], []⟩, ⟨0, [197, 198], [13, 14]⟩, ⟨0, [13], []⟩, ⟨1, [200], []⟩, ⟨1, [201], [18]⟩, ⟨0, [13], []⟩, ⟨1, [203], []⟩, ⟨1, [204], [21]⟩, ⟨0, [13], []⟩, ⟨1, [206], []⟩, ⟨1, [207], [24]⟩, ⟨1, [185, 188, 191, 194, 199, 202, 205, 208], [4, 5, 7, 8, 10, 11, 13, 14, 18, 19, 21, 22, 24, 25]⟩, ⟨0, [209], [4, 5, 7, 8, 10, 11, 13, 14, 18, 19, 21, 22, 24, 25, 26]⟩]), (22, [⟨0, [13], []⟩, ⟨0, [20], []⟩, ⟨0, [13], []⟩, ⟨0, [20], []⟩, ⟨1, [216, 217], []⟩, ⟨1, [218], [4]⟩, ⟨0, [0], []⟩, ⟨0, [20], []⟩, ⟨1, [220, 221], []⟩, ⟨1, [222], [8]⟩, ⟨0, [219, 223], [4, 5, 8, 9]⟩, ⟨1, [214, 215], [4, 5, 8, 9]⟩, ⟨2, [224, 225], [4, 5, 8, 9, 11]⟩])] := ⟨(.cons c29.g (.nil _))⟩

set_option maxRecDepth 100000 in
set_option maxHeartbeats 4000000 in
theorem c24 : ACon Try.prog 24 F24 := by
  refine aconc E_ok (rs := [.tmp 6 39]) Try.func24 rfl Try.ntmps24 (by kernel_rfl) rfl (by decide) F24 (np := 3) ?_ ?_
  · intro ts h; unfold F24; split <;> first | rfl | (simp at h; done)
  intro ts H r hF hwf
  unfold F24 at hF
  split at hF <;> try (cases hF; done)
  rename_i hs ks b
  split at hF
  case h_2 => cases hF
  rename_i s hs
  split at hF
  case isFalse => cases hF
  rename_i hc
  obtain ⟨hk, hb⟩ := hc
  cases hF
  subst hk
  obtain rfl := asS8_inv hs
  repeat refine St trivial ct24 ?_
  refine AWP.loop (G := { t : Nat // t ≤ 64 }) (fun t => ⟨[(0, .t (.sq 1 (s.l.map u32T))), (1, .t (.sq 1 (kS.map u32T))), (2, .t (.by b)), (7, .own 0), (8, .t (.int .i64 (t.1 : Int)))], [.sq 1 ((sch b t.1).map u32T)]⟩) (fun t => 64 - t.1) ⟨0, by omega⟩ (Wt (And.intro @sch.eq_1 <| @sch.eq_2) [0, 1, 2, 7, 8] [0]) ?_
  intro ⟨t, ht⟩
  dsimp only
  have hsl : (List.map u32T (sch b t)).length = t := by simp [sch_len]
  by_cases hlt : (t : Int) < 64
  case pos =>
    have hk1 : IntKind.i64.wrap ((t : Int) + 1) = ((t + 1 : Nat) : Int) := by rw [wrap_i64 (by omega) (by omega)]; omega
    have hsn := sch_snoc b t
    by_cases h16 : (t : Int) < 16
    · have m4 : IntKind.i64.wrap (4 * (t : Int)) = ((4 * t : Nat) : Int) := by rw [wrap_i64 (by omega) (by omega)]; omega
      have m41 : IntKind.i64.wrap (((4 * t : Nat) : Int) + 1) = ((4 * t + 1 : Nat) : Int) := by rw [wrap_i64 (by omega) (by omega)]; omega
      have m42 : IntKind.i64.wrap (((4 * t : Nat) : Int) + 2) = ((4 * t + 2 : Nat) : Int) := by rw [wrap_i64 (by omega) (by omega)]; omega
      have m43 : IntKind.i64.wrap (((4 * t : Nat) : Int) + 3) = ((4 * t + 3 : Nat) : Int) := by rw [wrap_i64 (by omega) (by omega)]; omega
      have l0 : 4 * t < b.length := by omega
      have l1 : 4 * t + 1 < b.length := by omega
      have l2 : 4 * t + 2 < b.length := by omega
      have l3 : 4 * t + 3 < b.length := by omega
      have s24 := fun x => u32_shl x 24 (by omega)
      have s16 := fun x => u32_shl x 16 (by omega)
      have s8 := fun x => u32_shl x 8 (by omega)
      have hw : (b.getD (4 * t) 0).toUInt32 <<< UInt32.ofNat 24 ||| (b.getD (4 * t + 1) 0).toUInt32 <<< UInt32.ofNat 16 ||| (b.getD (4 * t + 2) 0).toUInt32 <<< UInt32.ofNat 8 ||| (b.getD (4 * t + 3) 0).toUInt32 = next b (sch b t) t := by
        unfold next word
        rw [if_pos (by omega), wordR]; rfl
      repeat refine St (And.intro hlt <| And.intro h16 <| And.intro m4 <| And.intro m41 <| And.intro m42 <| And.intro m43 <| And.intro l0 <| And.intro l1 <| And.intro l2 <| And.intro l3 <| And.intro @u8.eq_def <| And.intro @u32_of_u8 <| And.intro s24 <| And.intro s16 <| And.intro s8 <| And.intro @u32_or <| And.intro hsl <| hk1) ct24 ?_
      exact ⟨⟨t + 1, by omega⟩, (Wt (And.intro hsn <| And.intro hw <| @u32T.eq_def) [0, 1, 2, 7, 8] [2]), by simp only; omega⟩
    · have g15 : ((sch b t).map u32T).getD (t - 15) default = _ := u32T_getD (by rw [sch_len]; omega)
      have g2 : ((sch b t).map u32T).getD (t - 2) default = _ := u32T_getD (by rw [sch_len]; omega)
      have g7 : ((sch b t).map u32T).getD (t - 7) default = _ := u32T_getD (by rw [sch_len]; omega)
      have g16 : ((sch b t).map u32T).getD (t - 16) default = _ := u32T_getD (by rw [sch_len]; omega)
      have m15 : IntKind.i64.wrap ((t : Int) - 15) = ((t - 15 : Nat) : Int) := by rw [wrap_i64 (by omega) (by omega)]; omega
      have m2 : IntKind.i64.wrap ((t : Int) - 2) = ((t - 2 : Nat) : Int) := by rw [wrap_i64 (by omega) (by omega)]; omega
      have m7 : IntKind.i64.wrap ((t : Int) - 7) = ((t - 7 : Nat) : Int) := by rw [wrap_i64 (by omega) (by omega)]; omega
      have m16 : IntKind.i64.wrap ((t : Int) - 16) = ((t - 16 : Nat) : Int) := by rw [wrap_i64 (by omega) (by omega)]; omega
      have l15 : t - 15 < t := by omega
      have l2 : t - 2 < t := by omega
      have l7 : t - 7 < t := by omega
      have l16 : t - 16 < t := by omega
      have i15 : ((t - 15 : Nat) : Int) < (t : Int) := by omega
      have i2 : ((t - 2 : Nat) : Int) < (t : Int) := by omega
      have i7 : ((t - 7 : Nat) : Int) < (t : Int) := by omega
      have i16 : ((t - 16 : Nat) : Int) < (t : Int) := by omega
      have r3 := fun x => u32_shr x 3 (by omega)
      have r10 := fun x => u32_shr x 10 (by omega)
      have hw : sg1 ((sch b t).getD (t - 2) 0) + (sch b t).getD (t - 7) 0 + sg0 ((sch b t).getD (t - 15) 0) + (sch b t).getD (t - 16) 0 = next b (sch b t) t := by
        unfold next
        rw [if_neg (by omega)]
        ac_rfl
      have hs0 : ∀ x, tr x 7 ^^^ tr x 18 ^^^ x >>> UInt32.ofNat 3 = sg0 x := fun x => rfl
      have hs1 : ∀ x, tr x 17 ^^^ tr x 19 ^^^ x >>> UInt32.ofNat 10 = sg1 x := fun x => rfl
      repeat refine St (And.intro hlt <| And.intro h16 <| And.intro @g15 <| And.intro g2 <| And.intro g7 <| And.intro @g16 <| And.intro m15 <| And.intro m2 <| And.intro m7 <| And.intro m16 <| And.intro l15 <| And.intro l2 <| And.intro l7 <| And.intro l16 <| And.intro i15 <| And.intro i2 <| And.intro i7 <| And.intro i16 <| And.intro r3 <| And.intro r10 <| And.intro @turn7 <| And.intro @turn18 <| And.intro @turn17 <| And.intro @turn19 <| And.intro @u32_xor <| And.intro @u32_add <| And.intro hs0 <| And.intro hs1 <| And.intro hsl <| hk1) ct24 ?_
      exact ⟨⟨t + 1, by omega⟩, (Wt (And.intro hsn <| And.intro hw <| @u32T.eq_def) [0, 1, 2, 7, 8] [2]), by simp only; omega⟩
  obtain rfl : t = 64 := by omega
  repeat refine St (And.intro hlt <| And.intro @a8_eq <| @a8.eq_def) ct24 ?_
  refine AWP.loop (G := { t : Nat // t ≤ 64 }) (fun t => ⟨[(0, .t (.sq 1 (s.l.map u32T))), (1, .t (.sq 1 (kS.map u32T))), (7, .own 0), (13, .own 1), (14, .t (.int .i64 (t.1 : Int)))], [.sq 1 ((sch b 64).map u32T), .sq 1 (a8 (rnds b s t.1))]⟩) (fun t => 64 - t.1) ⟨0, by omega⟩ (Wt (And.intro (And.intro @rnds.eq_1 <| @rnds.eq_2) <| And.intro @a8.eq_def <| @a8_eq) [0, 1, 7, 13, 14] [0, 2]) ?_
  intro ⟨t, ht⟩
  dsimp only
  by_cases hlt : (t : Int) < 64
  case neg =>
    obtain rfl : t = 64 := by omega
    repeat refine St hlt ct24 ?_
    refine AWP.loop (G := { i : Nat // i ≤ 8 }) (fun i => ⟨[(0, .t (.sq 1 (s.l.map u32T))), (13, .own 0), (20, .t (.int .i64 (i.1 : Int)))], [.sq 1 (mixV s (rnds b s 64) i.1)]⟩) (fun i => 8 - i.1) ⟨0, by omega⟩ (Wt @mixV_0 [0, 13, 20] [1]) ?_
    intro ⟨i, hi⟩
    dsimp only
    generalize hv : rnds b s 64 = v
    by_cases hl8 : (i : Int) < 8
    case neg =>
      obtain rfl : i = 8 := by omega
      have hfin : blkS s b = s.add v := by rw [← hv]; rfl
      repeat refine St hl8 ct24 ?_
      exact AWP.ret (Fin (And.intro @mixV_8 <| hfin) [] [0])
    have hi8 : i < 8 := by omega
    have hml := mixV_len s v i (by omega)
    have hsl : (List.map u32T s.l).length = 8 := rfl
    have g1 := mixV_get s v i hi8
    have g2 := a8_get s i hi8
    have g3 := mixV_set s v i hi8
    have hk1 : IntKind.i64.wrap ((i : Int) + 1) = ((i + 1 : Nat) : Int) := by rw [wrap_i64 (by omega) (by omega)]; omega
    repeat refine St (And.intro hl8 <| And.intro hi8 <| And.intro hml <| And.intro hsl <| And.intro g1 <| And.intro g2 <| And.intro g3 <| And.intro @u32_add <| And.intro hk1 <| @T.size.eq_def) ct24 ?_
    exact ⟨⟨i + 1, by omega⟩, (Wt trivial [0, 13, 20] [0]), by simp only; omega⟩
  have ht64 : t < 64 := by omega
  have hk1 : IntKind.i64.wrap ((t : Int) + 1) = ((t + 1 : Nat) : Int) := by rw [wrap_i64 (by omega) (by omega)]; omega
  have hkl : (List.map u32T kS).length = 64 := by simp [kS_len]
  have hwl : (List.map u32T (sch b 64)).length = 64 := by simp [sch_len]
  have hkg : (List.map u32T kS).getD t default = .int .u32 ((kS.getD t 0).toNat : Int) := u32T_getD (by rw [kS_len]; exact ht64)
  have hwg : (List.map u32T (sch b 64)).getD t default = .int .u32 (((sch b 64).getD t 0).toNat : Int) := u32T_getD (by rw [sch_len]; exact ht64)
  have hnx : rnds b s (t + 1) = rnd (rnds b s t) (kS.getD t 0) ((sch b 64).getD t 0) := rfl
  generalize rnds b s t = v at *
  generalize kS.getD t 0 = k at *
  generalize (sch b 64).getD t 0 = w at *
  repeat refine St (And.intro hlt <| And.intro @a8.eq_def <| And.intro hkl <| And.intro hwl <| And.intro hkg <| And.intro hwg <| And.intro ht64 <| And.intro hk1 <| And.intro @turn2 <| And.intro @turn6 <| And.intro @turn11 <| And.intro @turn13 <| And.intro @turn22 <| And.intro @turn25 <| And.intro @u32_xor <| And.intro @u32_and <| And.intro @u32_add <| And.intro @u32_xff <| @T.size.eq_def) ct24 ?_
  exact ⟨⟨t + 1, by omega⟩, (Wt (And.intro hnx <| And.intro @rnd.eq_def <| And.intro @t1S.eq_def <| And.intro @t2S.eq_def <| @a8.eq_def) [0, 1, 7, 13, 14] [0, 2]), by simp only; omega⟩

end Go.Fw

end

section
/- Chapter 7's answer: the hash, twice, behind a tag. -/
namespace Go.Fw
open Go Go.Proofs
set_option linter.unusedVariables false
set_option linter.unusedSimpArgs false

def F22 : Fun
  | [] => some ([.sq 1 (kS.map u32T)], .own 0)
  | _ => none

theorem ct22 : CT [] [0] [] := ⟨GClOk.nil _⟩

set_option maxRecDepth 100000 in
theorem c22 : ACon Try.prog 22 F22 := by
  refine aconc E_ok (rs := [.tmp 0 39]) Try.func22 rfl Try.ntmps22 (by kernel_rfl) rfl (by decide) F22 (np := 0) ?_ ?_
  · intro ts h; unfold F22; split <;> first | rfl | (simp at h; done)
  intro ts H r hF hwf
  unfold F22 at hF
  split at hF <;> try (cases hF; done)
  cases hF
  repeat refine St trivial ct22 ?_
  exact AWP.ret (Fin @kT_eq [] [0])

noncomputable def F12 : Fun
  | [.by b] => if b.length ≤ 1000000000 then some ([], .t (.ba 32 (shaL b))) else none
  | _ => none

theorem ct12 : CT [(22, ⟨[], treeG F22⟩), (23, ⟨[false], treeG F23⟩), (24, ⟨[false, false, false], treeG F24⟩)] [0, 2, 3, 4, 5, 6, 7, 8, 16, 29] [] := ⟨(.cons c22.g (.cons c23.g (.cons c24.g (.nil _))))⟩

theorem padS_long (b : List UInt8) : (padS b b.length).length ≤ b.length + 73 := by
  simp only [padS, List.length_append, List.length_cons, repl_len, be8_len, padK]; omega

set_option maxRecDepth 100000 in
set_option maxHeartbeats 2000000 in
theorem c12 : ACon Try.prog 12 F12 := by
  refine aconc E_ok (rs := [.cell 2 24]) Try.func12 rfl Try.ntmps12 (by kernel_rfl) rfl (by decide) F12 (np := 1) ?_ ?_
  · intro ts h; unfold F12; split <;> first | rfl | (simp at h; done)
  intro ts H r hF hwf
  unfold F12 at hF
  split at hF <;> try (cases hF; done)
  rename_i b
  split at hF
  case isFalse => cases hF
  rename_i hc
  have hb := hc
  cases hF
  have hpd : F23 [.by b] = some ([.by (padS b b.length)], .own 0) := if_pos hb
  have hpl := padS_len b b.length
  have hps := padS_long b
  have hfin : shaL b = outS (eatS h0S (padS b b.length) ((padS b b.length).length / 64)) := rfl
  obtain ⟨P, hP⟩ : ∃ P, padS b b.length = P := ⟨_, rfl⟩
  rw [hP] at hpl hfin hps hpd
  repeat refine St (And.intro hpd <| @F22.eq_def) ct12 ?_
  refine AWP.loop (G := { k : Nat // 64 * k ≤ P.length }) (fun k => ⟨[(2, .ptr 0 0 []), (3, .own 1), (4, .own 2), (5, .own 3), (6, .t (.int .i64 ((64 * k.1 : Nat) : Int)))], [.bx (.t (.ba 32 (zby 32))), .sq 1 ((eatS h0S P k.1).l.map u32T), .sq 1 (kS.map u32T), .by P]⟩) (fun k => P.length - 64 * k.1) ⟨0, by omega⟩ (Wt (And.intro (And.intro @eatS.eq_1 <| @eatS.eq_2) <| And.intro @a8_eq <| And.intro @a8.eq_def <| And.intro @h0S.eq_def <| @Nat.mul_zero) [2, 3, 4, 5, 6] [0, 1, 2, 3]) ?_
  intro ⟨k, hk⟩
  dsimp only
  have hnx : eatS h0S P (k + 1) = blkS (eatS h0S P k) ((P.drop (64 * k)).take 64) := rfl
  obtain ⟨v, hv⟩ : ∃ v, eatS h0S P k = v := ⟨_, rfl⟩
  rw [hv] at hnx ⊢
  by_cases hlt : ((64 * k : Nat) : Int) < (P.length : Int)
  case pos =>
    have h64' : 64 * k + 64 ≤ P.length := by omega
    have htl : ((P.drop (64 * k)).take 64).length = 64 := by simp; omega
    have hte : 64 * k + 64 - 64 * k = 64 := by omega
    have hbl := block_c v htl
    have hk1 : IntKind.i64.wrap (((64 * k : Nat) : Int) + 64) = ((64 * k + 64 : Nat) : Int) := by rw [wrap_i64 (by omega) (by omega)]; omega
    have hk2 : 64 * k + 64 = 64 * (k + 1) := by omega
    repeat refine St (And.intro hlt <| And.intro hk1 <| And.intro hte <| And.intro hbl <| @clean_u32) ct12 ?_
    exact ⟨⟨k + 1, by omega⟩, (Wt (And.intro hnx <| hk2) [2, 3, 4, 5, 6] [0, 4, 2, 3]), by simp only; omega⟩
  have hkk : k = P.length / 64 := by omega
  rw [← hkk, hv] at hfin
  repeat refine St hlt ct12 ?_
  refine AWP.loop (G := { p : Nat // p ≤ 32 }) (fun p => ⟨[(2, .ptr 0 0 []), (3, .own 1), (7, .ptr 2 0 []), (8, .t (.int .i64 (p.1 : Int)))], [.bx (.t (.ba 32 (zby 32))), .sq 1 (v.l.map u32T), .bx (.t (.ba 32 (outM v p.1)))]⟩) (fun p => 32 - p.1) ⟨0, by omega⟩ (Wt @outM_0 [2, 3, 7, 8] [0, 1, 4]) ?_
  intro ⟨p, hp⟩
  dsimp only
  have hol := outM_len v p
  by_cases hp32i : (p : Int) < 32
  case neg =>
    obtain rfl : p = 32 := by omega
    have ho := outM_32 v
    repeat refine St (And.intro hp32i <| And.intro @T.size.eq_def <| And.intro ho <| hol) ct12 ?_
    exact AWP.ret (Fin hfin [] [])
  have hp32 : p < 32 := by omega
  have hvl : (List.map u32T v.l).length = 8 := rfl
  have hp8 : p / 4 < 8 := by omega
  have hp8i : ((p / 4 : Nat) : Int) < 8 := by omega
  have hvg := a8_get v (p / 4) hp8
  have hq : IntKind.i64.wrap (Int.tdiv (p : Int) 4) = ((p / 4 : Nat) : Int) := by
    rw [Int.tdiv_eq_ediv_of_nonneg (by omega), wrap_i64 (by omega) (by omega)]; omega
  have hr : IntKind.i64.wrap (Int.tmod (p : Int) 4) = ((p % 4 : Nat) : Int) := by
    rw [Int.tmod_eq_emod_of_nonneg (by omega), wrap_i64 (by omega) (by omega)]; omega
  have hm8 : IntKind.i64.wrap (8 * ((p % 4 : Nat) : Int)) = ((8 * (p % 4) : Nat) : Int) := by rw [wrap_i64 (by omega) (by omega)]; omega
  have hm24 : IntKind.i64.wrap (24 - ((8 * (p % 4) : Nat) : Int)) = ((24 - 8 * (p % 4) : Nat) : Int) := by rw [wrap_i64 (by omega) (by omega)]; omega
  have hmu : IntKind.u64.wrap ((24 - 8 * (p % 4) : Nat) : Int) = ((24 - 8 * (p % 4) : Nat) : Int) := wrap_u64 (by omega) (by omega)
  have hnn : ¬ ((24 - 8 * (p % 4) : Nat) : Int) < 0 := by omega
  have hsh := u32_shr (v.l.getD (p / 4) 0) (24 - 8 * (p % 4)) (by omega)
  have hob : ((v.l.getD (p / 4) 0) >>> UInt32.ofNat (24 - 8 * (p % 4))).toUInt8 = outB v p := rfl
  have hset := outM_set v hp32
  have hof : ∀ c : UInt8, UInt8.ofNat c.toNat = c := fun c => by simp
  have hkj : IntKind.i64.wrap ((p : Int) + 1) = ((p + 1 : Nat) : Int) := by rw [wrap_i64 (by omega) (by omega)]; omega
  repeat refine St (And.intro hp32i <| And.intro hp32 <| And.intro hvl <| And.intro hp8 <| And.intro hp8i <| And.intro hvg <| And.intro hq <| And.intro hr <| And.intro hm8 <| And.intro hm24 <| And.intro hmu <| And.intro hnn <| And.intro hsh <| And.intro @u8_of_u32 <| And.intro hob <| And.intro hof <| And.intro hset <| And.intro hol <| And.intro hkj <| @T.size.eq_def) ct12 ?_
  exact ⟨⟨p + 1, by omega⟩, (Wt trivial [2, 3, 7, 8] [0, 1, 2]), by simp only; omega⟩

theorem refsum_c {b : List UInt8} (h : b.length ≤ 1000000000) : F12 [.by b] = some ([], .t (.ba 32 (shaL b))) := if_pos h

noncomputable def F19 : Fun
  | [.by b] => if b.length ≤ 1000000000 then some ([], .t (.ba 32 (shaL (shaL b)))) else none
  | _ => none

theorem ct19 : CT [(12, ⟨[false], treeG F12⟩)] [0, 2, 3] [] := ⟨(.cons c12.g (.nil _))⟩

theorem c19 : ACon Try.prog 19 F19 := by
  refine aconc E_ok (rs := [.cell 2 24]) Try.func19 rfl Try.ntmps19 (by kernel_rfl) rfl (by decide) F19 (np := 1) ?_ ?_
  · intro ts h; unfold F19; split <;> first | rfl | (simp at h; done)
  intro ts H r hF hwf
  unfold F19 at hF
  split at hF <;> try (cases hF; done)
  rename_i b
  split at hF
  case isFalse => cases hF
  rename_i hc
  have hb := hc
  cases hF
  have h1 := refsum_c hb
  have hl := shaL_len b
  have h2 : F12 [.by (shaL b)] = some ([], .t (.ba 32 (shaL (shaL b)))) := refsum_c (by omega)
  generalize shaL (shaL b) = y at *
  obtain ⟨x, hx⟩ : ∃ x, shaL b = x := ⟨_, rfl⟩
  rw [hx] at h1 hl h2
  have ht : x.take 32 = x := List.take_of_length_le (by omega)
  repeat refine St (And.intro h1 <| And.intro hl <| And.intro h2 <| ht) ct19 ?_
  exact AWP.ret (Fin trivial [] [])

noncomputable def F21 : Fun
  | [.str tag, .by b] => if b.length ≤ 1000000 ∧ tag.length ≤ 1000000000 then some ([], .t (.ba 32 (tagL tag b))) else none
  | _ => none

theorem ct21 : CT [(12, ⟨[false], treeG F12⟩)] [0, 1, 4, 5, 6] [] := ⟨(.cons c12.g (.nil _))⟩

set_option maxHeartbeats 1000000 in
theorem c21 : ACon Try.prog 21 F21 := by
  refine aconc E_ok (rs := [.cell 4 24]) Try.func21 rfl Try.ntmps21 (by kernel_rfl) rfl (by decide) F21 (np := 2) ?_ ?_
  · intro ts h; unfold F21; split <;> first | rfl | (simp at h; done)
  intro ts H r hF hwf
  unfold F21 at hF
  split at hF <;> try (cases hF; done)
  rename_i tag b
  split at hF
  case isFalse => cases hF
  rename_i hc
  obtain ⟨hb, ht⟩ := hc
  cases hF
  have h1 := refsum_c ht
  have hl := shaL_len tag
  unfold tagL
  obtain ⟨x, hx⟩ : ∃ x, shaL tag = x := ⟨_, rfl⟩
  rw [hx] at h1 hl ⊢
  have hs := refsum_c (b := x ++ x ++ b) (by simp; omega)
  have htag : tag.length ≤ 281474976710656 := by omega
  have lx : x.length ≤ 100 := by omega
  have lxx : (x ++ x).length ≤ 100 := by simp; omega
  have ht : x.take 32 = x := List.take_of_length_le (by omega)
  repeat refine St (And.intro h1 <| And.intro ht <| And.intro hs <| And.intro htag <| And.intro lx <| And.intro lxx <| hb) ct21 ?_
  exact AWP.ret (Fin trivial [] [])

end Go.Fw

end

section
/- Chapter 7's answer: primes, digits, products. -/
namespace Go.Fw
open Go Go.Proofs
set_option linter.unusedVariables false
set_option linter.unusedSimpArgs false

def pAll (p : Nat) (l : List Nat) : Bool := l.all (fun q => p % q != 0)
theorem pAll_nil (p : Nat) : pAll p [] = true := rfl
theorem pAll_succ (p : Nat) {l : List Nat} {i : Nat} (h : i < l.length) : pAll p (l.take (i + 1)) = (pAll p (l.take i) && (p % l.getD i 0 != 0)) := by
  unfold pAll
  rw [List.take_succ_eq_append_getElem h, List.all_append]
  simp [h]
theorem nat_bne (n : Nat) : ((n : Int) != 0) = (n != 0) := by
  cases n with
  | zero => rfl
  | succ n => rw [show (n + 1 != 0) = true by simp, bne_iff_ne]; omega

def F30 : Fun
  | [.int .i64 n] => if 0 ≤ n ∧ n ≤ 64 then some ([.sq 1 (((pr 312).take n.toNat).map n64)], .own 0) else none
  | _ => none

theorem ct30 : CT [] [0, 2, 3, 4, 5, 6, 11, 17, 30] [] := ⟨GClOk.nil _⟩

theorem c30 : ACon Try.prog 30 F30 := by
  refine aconc E_ok (rs := [.tmp 2 50]) Try.func30 rfl Try.ntmps30 (by kernel_rfl) rfl (by decide) F30 (np := 1) ?_ ?_
  · intro ts h; unfold F30; split <;> first | rfl | (simp at h; done)
  intro ts H r hF hwf
  unfold F30 at hF
  split at hF <;> try (cases hF; done)
  rename_i n
  split at hF
  case isFalse => cases hF
  rename_i hc
  obtain ⟨h0, h1⟩ := hc
  cases hF
  repeat refine St trivial ct30 ?_
  refine AWP.loop (G := { p : Nat // 2 ≤ p ∧ p ≤ 312 ∧ ((pr p).length : Int) ≤ n }) (fun p => ⟨[(0, .t (.int .i64 n)), (3, .own 0), (4, .t (.int .u64 (p.1 : Int)))], [.sq 1 ((pr p.1).map n64)]⟩) (fun p => 312 - p.1) ⟨2, by omega, by omega, by simpa [pr] using h0⟩ (Wt (And.intro (show pr 2 = [] from rfl) <| @List.map_nil.{0, 0}) [0, 3, 4] [0]) ?_
  intro ⟨p, hp2, hp3, hpn⟩
  dsimp only
  have hpl := pr_len p
  by_cases hlt : ((pr p).length : Int) < n
  case neg =>
    have hf := pr_first (p := p) (n := n.toNat) hp2 hp3 (by omega)
    repeat refine St trivial ct30 ?_
    exact AWP.ret (Fin hf [] [0])
  have hp312 : p < 312 := by
    rcases Nat.lt_or_ge p 312 with h | h
    · exact h
    · obtain rfl : p = 312 := by omega
      have := pr_312; omega
  have hsucc := pr_succ hp2
  have hge := pr_ge p
  obtain ⟨l, hl⟩ : ∃ l, pr p = l := ⟨_, rfl⟩
  rw [hl] at hpl hlt hpn hsucc hge
  repeat refine St hl ct30 ?_
  refine AWP.loop (G := { i : Nat // i ≤ l.length }) (fun i => ⟨[(0, .t (.int .i64 n)), (3, .own 0), (4, .t (.int .u64 (p : Int))), (5, .t (.bool (pAll p (l.take i.1)))), (6, .t (.int .i64 (i.1 : Int)))], [.sq 1 (l.map n64)]⟩) (fun i => l.length - i.1) ⟨0, by omega⟩ (Wt (And.intro @List.take_zero.{0} <| And.intro @pAll_nil <| hl) [0, 3, 4, 5, 6] [0]) ?_
  intro ⟨i, hi⟩
  dsimp only
  by_cases hil : (i : Int) < (l.length : Int)
  · have hil' : i < l.length := by omega
    have hq := hge (l.getD i 0) (by simp [hil'])
    have hget := n64_getD hil'
    have hsc := pAll_succ p hil'
    generalize l.getD i 0 = q at *
    have hmod : IntKind.u64.wrap (Int.tmod (p : Int) (q : Int)) = ((p % q : Nat) : Int) := mod64 q (by omega)
    have hne : (((p % q : Nat) : Int) != 0) = (p % q != 0) := nat_bne _
    have hq0 : ¬ (q : Int) = 0 := by omega
    cases hb : pAll p (l.take i)
    · rw [hb, Bool.false_and] at hsc
      repeat refine St hil' ct30 ?_
      exact ⟨⟨i + 1, by omega⟩, (Wt hsc [0, 3, 4, 5, 6] [0]), by simp only; omega⟩
    · rw [hb, Bool.true_and] at hsc
      repeat refine St (And.intro hil' <| And.intro hget <| And.intro hmod <| And.intro hne <| hq0) ct30 ?_
      exact ⟨⟨i + 1, by omega⟩, (Wt hsc [0, 3, 4, 5, 6] [0]), by simp only; omega⟩
  · obtain rfl : i = l.length := by omega
    rw [List.take_length]
    unfold pAll
    cases hb : l.all (fun q => p % q != 0)
    · rw [hb] at hsucc
      have hs : pr (p + 1) = l := by simpa using hsucc
      repeat refine St trivial ct30 ?_
      exact ⟨⟨p + 1, by omega, by omega, by rw [hs]; omega⟩, (Wt hs [0, 3, 4] [0]), by simp only; omega⟩
    · rw [hb] at hsucc
      have hs : pr (p + 1) = l ++ [p] := by simpa using hsucc
      have hm : (l ++ [p]).map n64 = l.map n64 ++ [.int .u64 (p : Int)] := by simp [n64]
      repeat refine St trivial ct30 ?_
      exact ⟨⟨p + 1, by omega, by omega, by rw [hs]; simp; omega⟩, (Wt (And.intro hs <| hm) [0, 3, 4] [2]), by simp only; omega⟩

theorem primes_c (n : Nat) (h : n ≤ 64) : F30 [.int .i64 (n : Int)] = some ([.sq 1 (((pr 312).take n).map n64)], .own 0) := by
  simp only [F30]; rw [if_pos ⟨by omega, by omega⟩, Int.toNat_natCast]

noncomputable def F37 : Fun
  | [.sq 1 ds, .int .i64 i] => match as64 ds with
    | some l => if 0 ≤ i then some ([], .t (.int .u64 ((l.getD i.toNat 0 : Nat) : Int))) else none
    | none => none
  | _ => none

theorem ct37 : CT [] [0, 1, 4, 8] [] := ⟨GClOk.nil _⟩

theorem c37 : ACon Try.prog 37 F37 := by
  refine aconc E_ok (rs := [.tmp 4 33]) Try.func37 rfl Try.ntmps37 (by kernel_rfl) rfl (by decide) F37 (np := 2) ?_ ?_
  · intro ts h; unfold F37; split <;> first | rfl | (simp at h; done)
  intro ts H r hF hwf
  unfold F37 at hF
  split at hF <;> try (cases hF; done)
  rename_i ds i
  split at hF <;> try (cases hF; done)
  rename_i l hl
  split at hF
  case isFalse => cases hF
  rename_i hc
  have h0 := hc
  cases hF
  obtain rfl := as64_inv hl
  obtain ⟨k, rfl⟩ : ∃ k : Nat, i = (k : Int) := ⟨i.toNat, by omega⟩
  rw [Int.toNat_natCast]
  by_cases h : (k : Int) < (l.length : Int)
  · have hk : k < l.length := by omega
    have hget := n64_getD hk
    repeat refine St (And.intro hk <| hget) ct37 ?_
    exact AWP.ret (Fin trivial [] [])
  · have hz : l.getD k 0 = 0 := by simp [List.getD_eq_getElem?_getD, List.getElem?_eq_none (show l.length ≤ k by omega)]
    repeat refine St trivial ct37 ?_
    exact AWP.ret (Fin hz [] [])

theorem digit_c {n V k : Nat} (h : V < 65536 ^ n) : F37 [.sq 1 ((digs n V).map n64), .int .i64 (k : Int)] = some ([], .t (.int .u64 ((V / 65536 ^ k % 65536 : Nat) : Int))) := by
  simp only [F37, as64_map]
  rw [if_pos (by omega), Int.toNat_natCast]
  rcases Nat.lt_or_ge k n with hk | hk
  · rw [digs_get n V k hk]
  · have h1 : V / 65536 ^ k = 0 := Nat.div_eq_of_lt (Nat.lt_of_lt_of_le h (Nat.pow_le_pow_right (by omega) hk))
    rw [h1]
    have hz : (digs n V).getD k 0 = 0 := by simp [List.getD_eq_getElem?_getD, List.getElem?_eq_none (show (digs n V).length ≤ k by rw [digs_len]; exact hk)]
    rw [hz]

open Classical in
noncomputable def F36 : Fun
  | [.sq 1 ds, .int .u64 x] => match as64 ds with
    | some l => if dig l ∧ 0 ≤ x ∧ x < 281474976710656 ∧ l.length ≤ 100 then some ([.sq 1 ((digs (l.length + 3) (dval l * x.toNat)).map n64)], .own 0) else none
    | none => none
  | _ => none

theorem ct36 : CT [] [0, 1, 4, 5, 6, 7, 8, 9, 10, 11, 19, 23, 29, 68] [(14, [⟨0, [7], []⟩, ⟨0, [5], []⟩, ⟨0, [6], []⟩, ⟨0, [8], []⟩, ⟨0, [36, 37], []⟩, ⟨1, [35, 38], []⟩, ⟨1, [39], [5]⟩, ⟨0, [34, 40], [5, 6]⟩, ⟨0, [0], []⟩, ⟨0, [6], []⟩, ⟨1, [42, 43], []⟩, ⟨1, [44], [10]⟩, ⟨0, [9], []⟩, ⟨0, [46], []⟩, ⟨0, [45, 47], [10, 11]⟩, ⟨0, [41, 48], [5, 6, 10, 11]⟩, ⟨0, [49], [5, 6, 10, 11]⟩])] := ⟨GClOk.nil _⟩

set_option maxHeartbeats 4000000 in
theorem c36 : ACon Try.prog 36 F36 := by
  refine aconc E_ok (rs := [.tmp 4 50]) Try.func36 rfl Try.ntmps36 (by kernel_rfl) rfl (by decide) F36 (np := 2) ?_ ?_
  · intro ts h; unfold F36; split <;> first | rfl | (simp at h; done)
  intro ts H r hF hwf
  unfold F36 at hF
  split at hF <;> try (cases hF; done)
  rename_i ds xi
  split at hF <;> try (cases hF; done)
  rename_i l hl
  split at hF
  case isFalse => cases hF
  rename_i hc
  obtain ⟨hdl, h0, h1, hlen⟩ := hc
  cases hF
  obtain rfl := as64_inv hl
  obtain ⟨x, rfl⟩ : ∃ x : Nat, xi = (x : Int) := ⟨xi.toNat, by omega⟩
  rw [Int.toNat_natCast]
  obtain ⟨L, hL⟩ : ∃ L, l.length = L := ⟨_, rfl⟩
  have hzn : List.replicate (L + 3) (T.int .u64 0) = (List.replicate (L + 3) 0).map n64 := n64_zero _
  have hw3 : IntKind.i64.wrap ((L : Int) + 3) = ((L + 3 : Nat) : Int) := by rw [wrap_i64 (by omega) (by omega)]; omega
  have hrd : ∀ n : Nat, List.replicate n (T.int .u64 0) = (repl n 0).map n64 := fun n => n64_zero n
  rw [hL]
  repeat refine St (And.intro hL <| And.intro hw3 <| hrd) ct36 ?_
  refine AWP.loop (G := { p : Nat × List Nat // p.1 ≤ L ∧ p.2.length = L + 3 ∧ dig p.2 ∧ dval p.2 = dval (l.take p.1) * x }) (fun p => ⟨[(0, .t (.sq 1 (l.map n64))), (1, .t (.int .u64 (x : Int))), (5, .own 0), (6, .t (.int .i64 (p.1.1 : Int)))], [.sq 1 (p.1.2.map n64)]⟩) (fun p => L - p.1.1) ⟨(0, repl (L + 3) 0), by omega, by simp [repl], zero_dig _, by simp [repl, zero_val, dval]⟩ (Wt trivial [0, 1, 5, 6] [0]) ?_
  intro ⟨⟨i, o⟩, hi, hol, hod, hov⟩
  dsimp only at hi hol hod hov ⊢
  by_cases hiL : (i : Int) < (L : Int)
  case neg =>
    obtain rfl : i = L := by omega
    rw [show l.take i = l by rw [← hL]; simp] at hov
    have hfin := digs_uniq hod hol hov
    repeat refine St hL ct36 ?_
    exact AWP.ret (Fin hfin [] [0])
  have hil : i < l.length := by omega
  have hga := n64_getD hil
  have ha16 := dig_get hdl hil
  have htk := dval_take l i hil
  have hdt := dval_lt (dig_take hdl (i + 1))
  rw [show (l.take (i + 1)).length = i + 1 by simp; omega] at hdt
  generalize l.getD i 0 = a at *
  obtain ⟨A, hA⟩ : ∃ A, dval (l.take i) * x = A := ⟨_, rfl⟩
  rw [hA] at hov
  have hnext : dval (l.take (i + 1)) * x = A + a * x * 65536 ^ i := by
    rw [htk, Nat.add_mul, hA]; congr 1; ac_rfl
  have hbound : dval (l.take (i + 1)) * x < 65536 ^ (L + 3) := by
    have e1 : x < 65536 ^ 3 := by omega
    have e2 : dval (l.take (i + 1)) * x ≤ 65536 ^ (i + 1) * x := Nat.mul_le_mul_right x (Nat.le_of_lt hdt)
    have e3 : 65536 ^ (i + 1) * x < 65536 ^ (i + 1) * 65536 ^ 3 := Nat.mul_lt_mul_of_pos_left e1 (Nat.pow_pos (by omega))
    have e4 : 65536 ^ (i + 1) * 65536 ^ 3 ≤ 65536 ^ (L + 3) := by rw [← Nat.pow_add]; exact Nat.pow_le_pow_right (by omega) (by omega)
    omega
  repeat refine St hL ct36 ?_
  refine AWP.loop (G := { q : Nat × List Nat × Nat // q.1 ≤ 3 ∧ q.2.1.length = L + 3 ∧ dig q.2.1 ∧ q.2.2 ≤ 65535 ∧ dval q.2.1 + q.2.2 * 65536 ^ (i + q.1) = A + a * (x % 65536 ^ q.1) * 65536 ^ i }) (fun q => ⟨[(0, .t (.sq 1 (l.map n64))), (1, .t (.int .u64 (x : Int))), (5, .own 0), (6, .t (.int .i64 (i : Int))), (7, .t (.int .u64 (q.1.2.2 : Int))), (8, .t (.int .i64 (q.1.1 : Int)))], [.sq 1 (q.1.2.1.map n64)]⟩) (fun q => 3 - q.1.1) ⟨(0, o, 0), by dsimp only; omega, hol, hod, by dsimp only; omega, by simp [hov, Nat.mod_one]⟩ (Wt trivial [0, 1, 5, 6, 7, 8] [0]) ?_
  intro ⟨⟨k, o, c⟩, hk, hol, hod, hc16, hinv⟩
  dsimp only at hk hol hod hc16 hinv ⊢
  by_cases hk3 : (k : Int) < 3
  case pos =>
    repeat refine St trivial ct36 ?_
    refine AWP.loop (G := { j : Nat // j ≤ k }) (fun j => ⟨[(0, .t (.sq 1 (l.map n64))), (1, .t (.int .u64 (x : Int))), (5, .own 0), (6, .t (.int .i64 (i : Int))), (7, .t (.int .u64 (c : Int))), (8, .t (.int .i64 (k : Int))), (9, .t (.int .u64 ((x / 65536 ^ j.1 : Nat) : Int))), (10, .t (.int .i64 (j.1 : Int)))], [.sq 1 (o.map n64)]⟩) (fun j => k - j.1) ⟨0, by omega⟩ (Wt (And.intro @Nat.pow_zero <| @Nat.div_one) [0, 1, 5, 6, 7, 8, 9, 10] [0]) ?_
    intro ⟨j, hj⟩
    dsimp only
    have hvx := Nat.div_le_self x (65536 ^ j)
    by_cases hjk : (j : Int) < (k : Int)
    · have hdv : IntKind.u64.wrap (Int.tdiv ((x / 65536 ^ j : Nat) : Int) 65536) = ((x / 65536 ^ (j + 1) : Nat) : Int) := by
        rw [div16 (by omega), Nat.div_div_eq_div_mul, Nat.pow_succ]
      repeat refine St hdv ct36 ?_
      exact ⟨⟨j + 1, by omega⟩, (Wt trivial [0, 1, 5, 6, 7, 8, 9, 10] [0]), by simp only; omega⟩
    · obtain rfl : j = k := by omega
      have hik : i + j < o.length := by omega
      have hgo := n64_getD hik
      have ho16 := dig_get hod hik
      have hset := dval_set o (i + j)
      have hmp : x % 65536 ^ (j + 1) = x % 65536 ^ j + 65536 ^ j * (x / 65536 ^ j % 65536) := Nat.mod_pow_succ
      generalize x / 65536 ^ j = v at *
      have hxk : v % 65536 < 65536 := Nat.mod_lt _ (by omega)
      have hap : a * (v % 65536) ≤ 65535 * 65535 := Nat.mul_le_mul (by omega) (by omega)
      have w1 := mod16 (a := v) (by omega)
      have w2 := mul64 (a := a) (b := v % 65536) (by omega)
      generalize hob : o.getD (i + j) 0 = b at *
      have w3 := add64 (a := c) (b := b) (by omega)
      have w4 := add64 (a := c + b) (b := a * (v % 65536)) (by omega)
      obtain ⟨s, hs⟩ : ∃ s, c + b + a * (v % 65536) = s := ⟨_, rfl⟩
      have hstep := carry_step (V := dval o) (c := c) (B := 65536 ^ (i + j)) (j := 0) (o := b) (a := a) (xk := v % 65536) hinv (hset (s % 65536) hik |>.trans (by rw [← hs]))
      rw [hs] at w4 hstep
      have hs17 : s ≤ 4295032830 := by omega
      have w5 := mod16 (a := s) (by omega)
      have w6 := div16 (a := s) (by omega)
      have hij : IntKind.i64.wrap ((i : Int) + (j : Int)) = ((i + j : Nat) : Int) := by rw [wrap_i64 (by omega) (by omega)]; omega
      have hik' : i + j < L + 3 := by omega
      repeat refine St (And.intro hL <| And.intro hil <| And.intro hga <| And.intro hij <| And.intro hik' <| And.intro hol <| And.intro hgo <| And.intro w1 <| And.intro w2 <| And.intro w3 <| And.intro w4 <| And.intro w5 <| And.intro w6 <| @n64_set) ct36 ?_
      refine ⟨⟨(j + 1, o.set (i + j) (s % 65536), s / 65536), by dsimp only; omega, by simp [hol], dig_set hod (by omega), by dsimp only; omega, ?_⟩, (Wt trivial [0, 1, 5, 6, 7, 8] [0]), by simp only; omega⟩
      dsimp only
      rw [show i + (j + 1) = i + j + 1 by omega, Nat.pow_succ, hstep, hmp, Nat.mul_add, Nat.add_mul, Nat.pow_add, Nat.add_assoc]
      congr 2; ac_rfl
  obtain rfl : k = 3 := by omega
  rw [Nat.mod_eq_of_lt (show x < 65536 ^ 3 by omega)] at hinv
  repeat refine St trivial ct36 ?_
  refine AWP.loop (G := { q : Nat × List Nat × Nat // q.1 ≤ L + 3 ∧ q.2.1.length = L + 3 ∧ dig q.2.1 ∧ q.2.2 ≤ 65535 ∧ dval q.2.1 + q.2.2 * 65536 ^ q.1 = A + a * x * 65536 ^ i }) (fun q => ⟨[(0, .t (.sq 1 (l.map n64))), (1, .t (.int .u64 (x : Int))), (5, .own 0), (6, .t (.int .i64 (i : Int))), (7, .t (.int .u64 (q.1.2.2 : Int))), (11, .t (.int .i64 (q.1.1 : Int)))], [.sq 1 (q.1.2.1.map n64)]⟩) (fun q => L + 3 - q.1.1) ⟨(i + 3, o, c), by dsimp only; omega, hol, hod, hc16, hinv⟩ (Wt trivial [0, 1, 5, 6, 7, 11] [0]) ?_
  intro ⟨⟨k, o, c⟩, hk, hol, hod, hc16, hinv⟩
  dsimp only at hk hol hod hc16 hinv ⊢
  have hend : c = 0 → dval o = dval (l.take (i + 1)) * x := fun h => by rw [hnext, ← hinv, h]; simp
  by_cases hc0 : 0 < (c : Int)
  case neg =>
    obtain rfl : c = 0 := by omega
    repeat refine St trivial ct36 ?_
    exact ⟨⟨(i + 1, o), by dsimp only; omega, hol, hod, hend rfl⟩, (Wt trivial [0, 1, 5, 6] [0]), by simp only; omega⟩
  by_cases hkl : (k : Int) < ((L + 3 : Nat) : Int)
  case neg =>
    exfalso
    obtain rfl : k = L + 3 := by omega
    have : 65536 ^ (L + 3) ≤ c * 65536 ^ (L + 3) := Nat.le_mul_of_pos_left _ (by omega)
    omega
  have hik : k < o.length := by omega
  have hgo := n64_getD hik
  have ho16 := dig_get hod hik
  have hset := dval_set o k
  generalize hob : o.getD k 0 = b at *
  have w3 := add64 (a := c) (b := b) (by omega)
  obtain ⟨s, hs⟩ : ∃ s, c + b = s := ⟨_, rfl⟩
  have hstep := carry_step (V := dval o) (c := c) (B := 65536 ^ k) (j := 0) (o := b) (a := 0) (xk := 0) hinv (hset (s % 65536) hik |>.trans (by rw [← hs, Nat.zero_mul, Nat.add_zero]))
  rw [Nat.zero_mul, Nat.add_zero] at hstep
  rw [hs] at w3 hstep
  have hs17 : s ≤ 131070 := by omega
  have w5 := mod16 (a := s) (by omega)
  have w6 := div16 (a := s) (by omega)
  have hik' : k < L + 3 := by omega
  repeat refine St (And.intro hc0 <| And.intro hkl <| And.intro hik' <| And.intro hol <| And.intro hgo <| And.intro w3 <| And.intro w5 <| And.intro w6 <| @n64_set) ct36 ?_
  refine ⟨⟨(k + 1, o.set k (s % 65536), s / 65536), by dsimp only; omega, by simp [hol], dig_set hod (by omega), by dsimp only; omega, ?_⟩, (Wt trivial [0, 1, 5, 6, 7, 11] [0]), by simp only; omega⟩
  dsimp only
  rw [Nat.pow_succ, hstep]; simp

theorem times_c {n V x : Nat} (hV : V < 65536 ^ n) (hx : x < 281474976710656) (hn : n ≤ 100) : F36 [.sq 1 ((digs n V).map n64), .int .u64 (x : Int)] = some ([.sq 1 ((digs (n + 3) (V * x)).map n64)], .own 0) := by
  simp only [F36, as64_map, dval_digs n V hV, Int.toNat_natCast]
  rw [if_pos ⟨digs_dig n V, by omega, by omega, by rw [digs_len]; exact hn⟩, digs_len]

end Go.Fw

end

section
/- Chapter 7: the laws ShaSum, ShaMade, ShaLong: their code walked. -/
namespace Go.Fw
open Go Go.Proofs
set_option linter.unusedVariables false
set_option linter.unusedSimpArgs false

theorem abc_0 : (shaL [97, 98, 99]).getD 0 0 = 186 ∧ (shaL [97, 98, 99]).getD 31 0 = 173 ∧ (shaL []).getD 0 0 = 227 ∧ (shaL []).getD 31 0 = 85 := by decide +kernel

def F10 : Fun
  | [] => some ([], .t (.bool true))
  | _ => none

theorem ct10 : CT [(11, ⟨[false], treeG F11⟩)] [0, 1, 2] [] := ⟨(.cons c11.g (.nil _))⟩

theorem c10 : ACon Try.prog 10 F10 := by
  refine aconc E_ok (rs := [.tmp 0 4]) Try.func10 rfl Try.ntmps10 (by kernel_rfl) rfl (by decide) F10 (np := 0) ?_ ?_
  · intro ts h; unfold F10; split <;> first | rfl | (simp at h; done)
  intro ts H r hF hwf
  unfold F10 at hF
  split at hF <;> try (cases hF; done)
  cases hF
  have h1 : F11 [.by [97, 98, 99]] = some ([], .t (.ba 32 (shaL [97, 98, 99]))) := shasum_c (by simp)
  have h2 : F11 [.by []] = some ([], .t (.ba 32 (shaL []))) := shasum_c (by simp)
  have l1 := shaL_len [97, 98, 99]
  have l2 := shaL_len []
  obtain ⟨a0, a1, a2, a3⟩ := abc_0
  obtain ⟨x, hx⟩ : ∃ x, shaL [97, 98, 99] = x := ⟨_, rfl⟩
  obtain ⟨y, hy⟩ : ∃ y, shaL [] = y := ⟨_, rfl⟩
  rw [hx] at h1 l1 a0 a1
  rw [hy] at h2 l2 a2 a3
  have b0 : ((x.getD 0 0).toNat : Int) = 186 := by rw [a0]; rfl
  have b1 : ((x.getD 31 0).toNat : Int) = 173 := by rw [a1]; rfl
  have b2 : ((y.getD 0 0).toNat : Int) = 227 := by rw [a2]; rfl
  have b3 : ((y.getD 31 0).toNat : Int) = 85 := by rw [a3]; rfl
  have e1 : (UInt8.ofNat 97 : UInt8) = 97 := rfl
  have e2 : (UInt8.ofNat 98 : UInt8) = 98 := rfl
  have e3 : (UInt8.ofNat 99 : UInt8) = 99 := rfl
  repeat refine St (And.intro h1 <| And.intro h2 <| And.intro l1 <| And.intro l2 <| And.intro b0 <| And.intro b1 <| And.intro b2 <| And.intro b3 <| And.intro e1 <| And.intro e2 <| And.intro e3 <| @u8.eq_def) ct10 ?_
  exact AWP.ret (Fin trivial [] [])

theorem str_of {x : T} (h : Sh.str.has x) : ∃ l, x = .str l := by
  cases x <;> simp only [Sh.has] at h
  exact ⟨_, rfl⟩

def F3 : Fun
  | [.by b] => some ([], .t (.bool true))
  | _ => none

theorem ct3 : CT [(10, ⟨[], treeG F10⟩), (11, ⟨[false], treeG F11⟩), (12, ⟨[false], treeG F12⟩)] [0, 2, 3, 6] [] := ⟨(.cons c10.g (.cons c11.g (.cons c12.g (.nil _))))⟩

theorem c3 : ACon Try.prog 3 F3 := by
  refine aconc E_ok (rs := [.tmp 2 4]) Try.func3 rfl Try.ntmps3 (by kernel_rfl) rfl (by decide) F3 (np := 1) ?_ ?_
  · intro ts h; unfold F3; split <;> first | rfl | (simp at h; done)
  intro ts H r hF hwf
  unfold F3 at hF
  split at hF <;> try (cases hF; done)
  rename_i b
  cases hF
  by_cases hb : 300 < (b.length : Int)
  · repeat refine St @F10.eq_def ct3 ?_
    exact AWP.ret (Fin trivial [] [])
  have h1 := shasum_c (b := b) (by omega)
  have h2 := refsum_c (b := b) (by omega)
  have hl : b.length ≤ 300 := by omega
  repeat refine St (And.intro @F10.eq_def <| And.intro h1 <| And.intro h2 <| hl) ct3 ?_
  exact AWP.ret (Fin trivial [] [])

def F8 : Fun
  | [.str tag, .by b] => some ([], .t (.bool true))
  | _ => none

theorem ct8 : CT [(10, ⟨[], treeG F10⟩), (18, ⟨[false], treeG F18⟩), (19, ⟨[false], treeG F19⟩), (20, ⟨[false, false], treeG F20⟩), (21, ⟨[false, false], treeG F21⟩)] [0, 1, 4, 12] [] := ⟨(.cons c10.g (.cons c18.g (.cons c19.g (.cons c20.g (.cons c21.g (.nil _))))))⟩

theorem c8 : ACon Try.prog 8 F8 := by
  refine aconc E_ok (rs := [.tmp 4 4]) Try.func8 rfl Try.ntmps8 (by kernel_rfl) rfl (by decide) F8 (np := 2) ?_ ?_
  · intro ts h; unfold F8; split <;> first | rfl | (simp at h; done)
  intro ts H r hF hwf
  unfold F8 at hF
  split at hF <;> try (cases hF; done)
  rename_i tag b
  cases hF
  by_cases hb : 300 < (b.length : Int)
  · repeat refine St (And.intro hb <| @F10.eq_def) ct8 ?_
    exact AWP.ret (Fin trivial [] [])
  by_cases ht : 300 < (tag.length : Int)
  · repeat refine St (And.intro hb <| And.intro ht <| @F10.eq_def) ct8 ?_
    exact AWP.ret (Fin trivial [] [])
  have h3 : F18 [.by b] = some ([], .t (.ba 32 (shaL (shaL b)))) := if_pos (by omega)
  have h4 : F19 [.by b] = some ([], .t (.ba 32 (shaL (shaL b)))) := if_pos (by omega)
  have h5 : F20 [.str tag, .by b] = some ([], .t (.ba 32 (tagL tag b))) := if_pos ⟨by omega, by omega⟩
  have h6 : F21 [.str tag, .by b] = some ([], .t (.ba 32 (tagL tag b))) := if_pos ⟨by omega, by omega⟩
  repeat refine St (And.intro hb <| And.intro ht <| And.intro @F10.eq_def <| And.intro h3 <| And.intro h4 <| And.intro h5 <| h6) ct8 ?_
  exact AWP.ret (Fin trivial [] [])

theorem and2047 (n : Int) : ∃ k : Nat, k ≤ 2047 ∧ abits .and .i64 n 2047 = (k : Int) := by
  refine ⟨(n % 18446744073709551616).toNat &&& 2047, Nat.and_le_right, ?_⟩
  have e : (2 : Int) ^ IntKind.i64.bits = 18446744073709551616 := by decide
  have h : (n % 18446744073709551616).toNat &&& 2047 ≤ 2047 := Nat.and_le_right
  simp only [abits, e]
  rw [show ((2047 : Int) % 18446744073709551616).toNat = 2047 from rfl]
  exact wrap_i64 (by omega) (by omega)

theorem repl_def {α : Type} (n : Nat) (x : α) : List.replicate n x = repl n x := rfl
theorem repl_set {c : UInt8} {i k : Nat} (h : i < k) : (repl i c ++ repl (k - i) 0).set i c = repl (i + 1) c ++ repl (k - (i + 1)) 0 := by
  rw [List.set_append_right _ _ (by simp [repl_len]), repl_len, Nat.sub_self]
  rw [show k - i = (k - (i + 1)) + 1 by omega, ← repl_snoc i]
  simp [repl, List.replicate_succ]

def F4 : Fun
  | [.int .u8 c, .int .i64 n] => some ([], .t (.bool true))
  | _ => none

theorem ct4 : CT [(10, ⟨[], treeG F10⟩), (11, ⟨[false], treeG F11⟩), (12, ⟨[false], treeG F12⟩)] [0, 1, 4, 5, 6, 7, 14] [] := ⟨(.cons c10.g (.cons c11.g (.cons c12.g (.nil _))))⟩

theorem c4 : ACon Try.prog 4 F4 := by
  refine aconc E_ok (rs := [.tmp 4 4]) Try.func4 rfl Try.ntmps4 (by kernel_rfl) rfl (by decide) F4 (np := 2) ?_ ?_
  · intro ts h; unfold F4; split <;> first | rfl | (simp at h; done)
  intro ts H r hF hwf
  unfold F4 at hF
  split at hF <;> try (cases hF; done)
  rename_i c n
  cases hF
  obtain ⟨k, hk, ha⟩ := and2047 n
  repeat refine St (And.intro ha <| @repl_def) ct4 ?_
  refine AWP.loop (G := { i : Nat // i ≤ k }) (fun i => ⟨[(0, .t (.int .u8 c)), (5, .t (.int .i64 (k : Int))), (6, .own 0), (7, .t (.int .i64 (i.1 : Int)))], [.by (repl i.1 (UInt8.ofNat c.toNat) ++ repl (k - i.1) 0)]⟩) (fun i => k - i.1) ⟨0, by omega⟩ (Wt @repl_0 [0, 5, 6, 7] [0]) ?_
  intro ⟨i, hi⟩
  dsimp only
  have hl : (repl i (UInt8.ofNat c.toNat) ++ repl (k - i) 0).length = k := by simp [repl_len]; omega
  by_cases h : (i : Int) < (k : Int)
  · have hik : i < k := by omega
    have hs := repl_set (c := UInt8.ofNat c.toNat) hik
    repeat refine St (And.intro h <| And.intro hik <| And.intro hl <| hs) ct4 ?_
    exact ⟨⟨i + 1, by omega⟩, (Wt trivial [0, 5, 6, 7] [0]), by simp only; omega⟩
  · obtain ⟨L, hL⟩ : ∃ L, repl i (UInt8.ofNat c.toNat) ++ repl (k - i) 0 = L := ⟨_, rfl⟩
    rw [hL] at hl ⊢
    have h1 := shasum_c (b := L) (by omega)
    have h2 := refsum_c (b := L) (by omega)
    repeat refine St (And.intro h <| And.intro @F10.eq_def <| And.intro h1 <| h2) ct4 ?_
    exact AWP.ret (Fin trivial [] [])

end Go.Fw

end

section
/- Chapter 7's answer: roots. -/
namespace Go.Fw
open Go Go.Proofs
set_option linter.unusedVariables false
set_option linter.unusedSimpArgs false

def okV (cube : Bool) (p x : Nat) : Bool := if cube then decide (x * x * x ≤ p * 65536 ^ 6) else decide (x * x ≤ p * 65536 ^ 4)
theorem okR_eq (cube : Bool) (p y : Nat) : okR cube p y = (decide ((y : Int) < 137438953472) && okV cube p y) := rfl

noncomputable def F35 : Fun
  | [.int .u64 x, .int .u64 p, .bool cube] => @ite _ (0 ≤ x ∧ x < 137438953472 ∧ 0 ≤ p ∧ p < 65536) (Classical.propDecidable _) (some ([], .t (.bool (okV cube p.toNat x.toNat)))) none
  | _ => none

theorem ct35 : CT [(36, ⟨[false, false], treeG F36⟩), (37, ⟨[false, false], treeG F37⟩)] [0, 1, 2, 6, 7, 8, 9, 10, 11, 12, 24, 35, 46] [] := ⟨(.cons c36.g (.cons c37.g (.nil _)))⟩

theorem digs3 {x : Nat} (h : x < 281474976710656) : (digs 3 x).map n64 = [.int .u64 ((x % 65536 : Nat) : Int), .int .u64 ((x / 65536 % 65536 : Nat) : Int), .int .u64 ((x / 65536 / 65536 : Nat) : Int)] := by
  simp only [digs, List.map_cons, List.map_nil, n64]
  rw [Nat.mod_eq_of_lt (show x / 65536 / 65536 < 65536 by omega)]
theorem digsE (n p : Nat) (h : p < 65536) : (digs (n + 1) (p * 65536 ^ n)).map n64 = (List.replicate n (T.int .u64 0)) ++ [.int .u64 (p : Int)] := by
  have h1 : List.replicate n 0 ++ [p] = digs (n + 1) (p * 65536 ^ n) := digs_uniq (fun e he => by
    rcases List.mem_append.1 he with h1 | h1
    · exact zero_dig n e h1
    · simp at h1; omega) (by simp) (by rw [dval_snoc, zero_val]; simp)
  rw [← h1]; simp [n64]

set_option maxRecDepth 100000 in
set_option maxHeartbeats 4000000 in
theorem c35 : ACon Try.prog 35 F35 := by
  refine aconc E_ok (rs := [.tmp 6 4]) Try.func35 rfl Try.ntmps35 (by kernel_rfl) rfl (by decide) F35 (np := 3) ?_ ?_
  · intro ts h; unfold F35; split <;> first | rfl | (simp at h; done)
  intro ts H r hF hwf
  unfold F35 at hF
  split at hF <;> try (cases hF; done)
  rename_i xi pi cube
  split at hF
  case isFalse => cases hF
  rename_i hc
  obtain ⟨h0, h1, h2, h3⟩ := hc
  cases hF
  obtain ⟨x, rfl⟩ : ∃ x : Nat, xi = (x : Int) := ⟨xi.toNat, by omega⟩
  obtain ⟨p, rfl⟩ : ∃ p : Nat, pi = (p : Int) := ⟨pi.toNat, by omega⟩
  rw [Int.toNat_natCast, Int.toNat_natCast]
  have hx : x < 137438953472 := by omega
  have hp : p < 65536 := by omega
  have m0 := mod16 (a := x) (by omega)
  have d0 := div16 (a := x) (by omega)
  have m1 := mod16 (a := x / 65536) (by omega)
  have d1 := div16 (a := x / 65536) (by omega)
  have hd3 := digs3 (x := x) (by omega)
  have hx3 : x < 65536 ^ 3 := by omega
  have t1 := times_c hx3 (x := x) (by omega) (by omega)
  rw [hd3] at t1
  have hxx : x * x < 65536 ^ 6 := by
    have := Nat.mul_lt_mul'' hx3 hx3
    rwa [← Nat.pow_add] at this
  have t2 := times_c hxx (x := x) (by omega) (by omega)
  have hxxx : x * x * x < 65536 ^ 9 := by
    have := Nat.mul_lt_mul'' hxx hx3
    rwa [← Nat.pow_add] at this
  have e4 := digsE 4 p hp
  have e6 := digsE 6 p hp
  simp only [List.replicate, List.cons_append, List.nil_append, Nat.reduceAdd] at e4 e6
  have g4 : p * 65536 ^ 4 < 65536 ^ 5 := by rw [Nat.pow_succ 65536 4, Nat.mul_comm]; exact Nat.mul_lt_mul_of_pos_left hp (by decide)
  have g6 : p * 65536 ^ 6 < 65536 ^ 7 := by rw [Nat.pow_succ 65536 6, Nat.mul_comm]; exact Nat.mul_lt_mul_of_pos_left hp (by decide)
  have fin : ∀ V Wv k : Nat, V / 65536 ^ k = Wv / 65536 ^ k → k = 0 → V = Wv := fun V Wv k h h0 => by subst h0; simpa using h
  cases cube
  · have hv : okV false p x = decide ((x*x) ≤ p * 65536 ^ 4) := rfl
    rw [hv]
    repeat refine St (And.intro m0 <| And.intro d0 <| And.intro m1 <| And.intro d1 <| And.intro t1 <| And.intro t2 <| @clean_n64) ct35 ?_
    have h12a : (x*x) < 65536 ^ 12 := Nat.lt_of_lt_of_le hxx (Nat.pow_le_pow_right (by omega) (by omega))
    have h12b : p * 65536 ^ 4 < 65536 ^ 12 := Nat.lt_of_lt_of_le g4 (Nat.pow_le_pow_right (by omega) (by omega))
    have hV := hxx
    have hW := g4
    have hdiv : (x*x) / 65536 ^ 12 = p * 65536 ^ 4 / 65536 ^ 12 := by rw [Nat.div_eq_of_lt h12a, Nat.div_eq_of_lt h12b]
    obtain ⟨Wv, hWe⟩ : ∃ Wv, p * 65536 ^ 4 = Wv := ⟨_, rfl⟩
    rw [hWe] at hW hdiv e4 ⊢
    obtain ⟨V, hVe⟩ : ∃ V, (x*x) = V := ⟨_, rfl⟩
    rw [hVe] at hV hdiv ⊢
    refine AWP.loop (G := { j : Nat // j ≤ 12 ∧ V / 65536 ^ j = Wv / 65536 ^ j }) (fun j => ⟨[(7, .own 0), (9, .own 1), (10, .t (.int .i64 ((j.1 : Int) - 1)))], [.sq 1 ((digs 6 V).map n64), .sq 1 ((digs 5 Wv).map n64)]⟩) (fun j => j.1) ⟨12, by omega, hdiv⟩ (Wt e4 [7, 9, 10] [1,4]) ?_
    intro ⟨j, hj, heq⟩
    dsimp only
    by_cases hj0 : 0 ≤ (j : Int) - 1
    · obtain ⟨i, rfl⟩ : ∃ i, j = i + 1 := ⟨j - 1, by omega⟩
      have hi : (((i + 1 : Nat) : Int) - 1) = (i : Int) := by omega
      have dv := digit_c (k := i) hV
      have dw := digit_c (k := i) hW
      rw [Nat.pow_succ] at heq
      by_cases hab : V / 65536 ^ i % 65536 = Wv / 65536 ^ i % 65536
      · have heq' : V / 65536 ^ i = Wv / 65536 ^ i := by
          rw [← Nat.div_div_eq_div_mul, ← Nat.div_div_eq_div_mul] at heq
          omega
        rw [← hab] at dw
        repeat refine St (And.intro hi <| And.intro dv <| dw) ct35 ?_
        exact ⟨⟨i, by omega, heq'⟩, (Wt trivial [7, 9, 10] [0, 1]), by simp only; omega⟩
      · have hcmp := cmp_digit heq hab
        have hne : (((V / 65536 ^ i % 65536 : Nat) : Int) != ((Wv / 65536 ^ i % 65536 : Nat) : Int)) = true := by rw [bne_iff_ne]; omega
        have hres : decide (((V / 65536 ^ i % 65536 : Nat) : Int) < ((Wv / 65536 ^ i % 65536 : Nat) : Int)) = decide (V ≤ Wv) := by
          rw [decide_eq_decide, ← hcmp]; exact Int.ofNat_lt
        repeat refine St (And.intro hi <| And.intro dv <| And.intro dw <| hne) ct35 ?_
        exact AWP.ret (Fin hres [] [])
    · obtain rfl : j = 0 := by omega
      have hVW := fin V Wv 0 heq rfl
      subst hVW
      repeat refine St trivial ct35 ?_
      exact AWP.ret (Fin trivial [] [])
  · have hv : okV true p x = decide ((x*x*x) ≤ p * 65536 ^ 6) := rfl
    rw [hv]
    repeat refine St (And.intro m0 <| And.intro d0 <| And.intro m1 <| And.intro d1 <| And.intro t1 <| And.intro t2 <| @clean_n64) ct35 ?_
    have h12a : (x*x*x) < 65536 ^ 12 := Nat.lt_of_lt_of_le hxxx (Nat.pow_le_pow_right (by omega) (by omega))
    have h12b : p * 65536 ^ 6 < 65536 ^ 12 := Nat.lt_of_lt_of_le g6 (Nat.pow_le_pow_right (by omega) (by omega))
    have hV := hxxx
    have hW := g6
    have hdiv : (x*x*x) / 65536 ^ 12 = p * 65536 ^ 6 / 65536 ^ 12 := by rw [Nat.div_eq_of_lt h12a, Nat.div_eq_of_lt h12b]
    obtain ⟨Wv, hWe⟩ : ∃ Wv, p * 65536 ^ 6 = Wv := ⟨_, rfl⟩
    rw [hWe] at hW hdiv e6 ⊢
    obtain ⟨V, hVe⟩ : ∃ V, (x*x*x) = V := ⟨_, rfl⟩
    rw [hVe] at hV hdiv ⊢
    refine AWP.loop (G := { j : Nat // j ≤ 12 ∧ V / 65536 ^ j = Wv / 65536 ^ j }) (fun j => ⟨[(7, .own 0), (9, .own 1), (10, .t (.int .i64 ((j.1 : Int) - 1)))], [.sq 1 ((digs 9 V).map n64), .sq 1 ((digs 7 Wv).map n64)]⟩) (fun j => j.1) ⟨12, by omega, hdiv⟩ (Wt e6 [7, 9, 10] [2,5]) ?_
    intro ⟨j, hj, heq⟩
    dsimp only
    by_cases hj0 : 0 ≤ (j : Int) - 1
    · obtain ⟨i, rfl⟩ : ∃ i, j = i + 1 := ⟨j - 1, by omega⟩
      have hi : (((i + 1 : Nat) : Int) - 1) = (i : Int) := by omega
      have dv := digit_c (k := i) hV
      have dw := digit_c (k := i) hW
      rw [Nat.pow_succ] at heq
      by_cases hab : V / 65536 ^ i % 65536 = Wv / 65536 ^ i % 65536
      · have heq' : V / 65536 ^ i = Wv / 65536 ^ i := by
          rw [← Nat.div_div_eq_div_mul, ← Nat.div_div_eq_div_mul] at heq
          omega
        rw [← hab] at dw
        repeat refine St (And.intro hi <| And.intro dv <| dw) ct35 ?_
        exact ⟨⟨i, by omega, heq'⟩, (Wt trivial [7, 9, 10] [0, 1]), by simp only; omega⟩
      · have hcmp := cmp_digit heq hab
        have hne : (((V / 65536 ^ i % 65536 : Nat) : Int) != ((Wv / 65536 ^ i % 65536 : Nat) : Int)) = true := by rw [bne_iff_ne]; omega
        have hres : decide (((V / 65536 ^ i % 65536 : Nat) : Int) < ((Wv / 65536 ^ i % 65536 : Nat) : Int)) = decide (V ≤ Wv) := by
          rw [decide_eq_decide, ← hcmp]; exact Int.ofNat_lt
        repeat refine St (And.intro hi <| And.intro dv <| And.intro dw <| hne) ct35 ?_
        exact AWP.ret (Fin hres [] [])
    · obtain rfl : j = 0 := by omega
      have hVW := fin V Wv 0 heq rfl
      subst hVW
      repeat refine St trivial ct35 ?_
      exact AWP.ret (Fin trivial [] [])

theorem least_c (cube : Bool) {p x : Nat} (hx : (x : Int) < 137438953472) (hp : p < 65536) : F35 [.int .u64 (x : Int), .int .u64 (p : Int), .bool cube] = some ([], .t (.bool (okV cube p x))) := by
  simp only [F35]
  rw [if_pos ⟨by omega, by omega, by omega, by omega⟩, Int.toNat_natCast, Int.toNat_natCast]

def F31 : Fun
  | [.int .u64 p, .bool cube] => if 0 ≤ p ∧ p < 65536 then some ([], .t (u32T (UInt32.ofNat (rootF cube p.toNat 37 0)))) else none
  | _ => none

theorem ct31 : CT [(35, ⟨[false, false, false], treeG F35⟩)] [0, 1, 4, 5, 6, 7, 9, 24] [] := ⟨(.cons c35.g (.nil _))⟩

theorem root_c (cube : Bool) {p : Nat} (hp : p < 65536) : F31 [.int .u64 (p : Int), .bool cube] = some ([], .t (u32T (UInt32.ofNat (rootF cube p 37 0)))) := by
  simp only [F31]
  rw [if_pos ⟨by omega, by omega⟩, Int.toNat_natCast]

theorem c31 : ACon Try.prog 31 F31 := by
  refine aconc E_ok (rs := [.tmp 4 38]) Try.func31 rfl Try.ntmps31 (by kernel_rfl) rfl (by decide) F31 (np := 2) ?_ ?_
  · intro ts h; unfold F31; split <;> first | rfl | (simp at h; done)
  intro ts H r hF hwf
  unfold F31 at hF
  split at hF <;> try (cases hF; done)
  rename_i pi cube
  split at hF
  case isFalse => cases hF
  rename_i hc
  obtain ⟨h0, h1⟩ := hc
  cases hF
  obtain ⟨p, rfl⟩ : ∃ p : Nat, pi = (p : Int) := ⟨pi.toNat, by omega⟩
  rw [Int.toNat_natCast]
  obtain ⟨M, hM⟩ : ∃ M : Int, (137438953472 : Int) = M := ⟨_, rfl⟩
  have hM0 : 0 ≤ M := by omega
  have hM1 : M ≤ 18446744073709551615 := by omega
  rw [hM]
  repeat refine St trivial ct31 ?_
  refine AWP.loop (G := { q : Nat × Nat // q.1 ≤ 37 ∧ (q.2 : Int) < M ∧ rootG (okR cube p) q.1 q.2 = rootG (okR cube p) 37 0 }) (fun q => ⟨[(0, .t (.int .u64 (p : Int))), (1, .t (.bool cube)), (5, .t (.int .u64 (q.1.2 : Int))), (6, .t (.int .i64 ((q.1.1 : Int) - 1)))], []⟩) (fun q => q.1.1) ⟨(37, 0), by omega, by dsimp only; omega, rfl⟩ (Wt trivial [0, 1, 5, 6] []) ?_
  intro ⟨⟨j, x⟩, hj, hx, hr⟩
  dsimp only at hj hx hr ⊢
  by_cases hj0 : 0 ≤ (j : Int) - 1
  · obtain ⟨i, rfl⟩ : ∃ i, j = i + 1 := ⟨j - 1, by omega⟩
    have hi : (((i + 1 : Nat) : Int) - 1) = (i : Int) := by omega
    have hp2 : 2 ^ i ≤ 68719476736 := pow36 (by omega)
    have hq2 : (0 : Int) ≤ ((2 ^ i : Nat) : Int) ∧ ((2 ^ i : Nat) : Int) ≤ 68719476736 := by
      generalize 2 ^ i = w at *
      omega
    have hsh : IntKind.u64.wrap (1 * 2 ^ min i IntKind.u64.bits) = ((2 ^ i : Nat) : Int) := by
      rw [show min i IntKind.u64.bits = i by rw [bits_u64]; omega, Int.one_mul]
      rw [show ((2 : Int) ^ i) = ((2 ^ i : Nat) : Int) by rw [Int.natCast_pow]; rfl]
      exact wrap_u64 hq2.1 (by have := hq2.2; generalize ((2 ^ i : Nat) : Int) = w at *; omega)
    have hnn : ¬ (i : Int) < 0 := by omega
    have hci : IntKind.u64.wrap (i : Int) = (i : Int) := wrap_u64 (by omega) (by omega)
    rw [rootG_succ, okR_eq, hM] at hr
    obtain ⟨w, hw⟩ : ∃ w, 2 ^ i = w := ⟨_, rfl⟩
    rw [hw] at hr hsh hp2
    have hadd := add64 (a := x) (b := w) (by omega)
    generalize x + w = y at *
    by_cases hy : (y : Int) < M
    · have hl := least_c cube (p := p) (x := y) (by rw [hM]; exact hy) (by omega)
      rw [decide_eq_true hy, Bool.true_and] at hr
      cases hok : okV cube p y
      · rw [hok] at hr hl
        repeat refine St (And.intro hi <| And.intro hci <| And.intro hnn <| And.intro hsh <| And.intro hadd <| And.intro hM0 <| And.intro hM1 <| And.intro hy <| hl) ct31 ?_
        exact ⟨⟨(i, x), by dsimp only; omega, hx, by simpa using hr⟩, (Wt trivial [0, 1, 5, 6] []), by simp only; omega⟩
      · rw [hok] at hr hl
        repeat refine St (And.intro hi <| And.intro hci <| And.intro hnn <| And.intro hsh <| And.intro hadd <| And.intro hM0 <| And.intro hM1 <| And.intro hy <| hl) ct31 ?_
        exact ⟨⟨(i, y), by dsimp only; omega, by dsimp only; omega, by simpa using hr⟩, (Wt trivial [0, 1, 5, 6] []), by simp only; omega⟩
    · rw [decide_eq_false hy, Bool.false_and] at hr
      repeat refine St (And.intro hi <| And.intro hci <| And.intro hnn <| And.intro hsh <| And.intro hadd <| And.intro hM0 <| And.intro hM1 <| hy) ct31 ?_
      exact ⟨⟨(i, x), by dsimp only; omega, hx, by simpa using hr⟩, (Wt trivial [0, 1, 5, 6] []), by simp only; omega⟩
  · obtain rfl : j = 0 := by omega
    have hr' : rootF cube p 37 0 = x := by unfold rootF; exact hr.symm
    have hu : IntKind.u32.wrap (x : Int) = ((UInt32.ofNat x).toNat : Int) := by
      rw [wrapu32, UInt32.toNat_ofNat']; omega
    repeat refine St hu ct31 ?_
    exact AWP.ret (Fin (And.intro hr' <| @u32T.eq_def) [] [])

def F25 : Fun
  | [] => some ([.sq 1 (kS.map u32T)], .own 0)
  | _ => none

theorem ct25 : CT [(30, ⟨[false], treeG F30⟩), (31, ⟨[false, false], treeG F31⟩)] [0, 1, 2, 3, 7] [] := ⟨(.cons c30.g (.cons c31.g (.nil _)))⟩

set_option maxRecDepth 100000 in
theorem c25 : ACon Try.prog 25 F25 := by
  refine aconc E_ok (rs := [.tmp 0 39]) Try.func25 rfl Try.ntmps25 (by kernel_rfl) rfl (by decide) F25 (np := 0) ?_ ?_
  · intro ts h; unfold F25; split <;> first | rfl | (simp at h; done)
  intro ts H r hF hwf
  unfold F25 at hF
  split at hF <;> try (cases hF; done)
  cases hF
  have hp : F30 [.int .i64 64] = some ([.sq 1 (((pr 312).take 64).map n64)], .own 0) := primes_c 64 (by omega)
  have hPl : ((pr 312).take 64).length = 64 := by rw [List.length_take, pr_312]; rfl
  have hroot : ∀ i, i < 64 → ∃ q : Nat, (((pr 312).take 64).map n64).getD i default = .int .u64 (q : Int) ∧ F31 [.int .u64 (q : Int), .bool true] = some ([], .t (u32T (kS.getD i 0))) := fun i hi => by
    have hg := n64_getD (l := (pr 312).take 64) (i := i) (by omega)
    refine ⟨_, hg, ?_⟩
    have he := pr_take hi
    have hlt := pr_lt i (by omega)
    rw [← he] at hlt
    have hs := steps_roots i hi
    rw [← he] at hs
    generalize ((pr 312).take 64).getD i 0 = q at *
    rw [root_c true hlt, hs]
  obtain ⟨P, hP⟩ : ∃ P, (pr 312).take 64 = P := ⟨_, rfl⟩
  rw [hP] at hp hPl hroot
  have hPm : (P.map n64).length = 64 := by simpa using hPl
  have hkl : kS.length = 64 := rfl
  repeat refine St (And.intro hp <| @clean_n64) ct25 ?_
  refine AWP.loop (G := { i : Nat // i ≤ 64 }) (fun i => ⟨[(1, .own 0), (2, .own 1), (3, .t (.int .i64 (i.1 : Int)))], [.sq 1 (P.map n64), .sq 1 ((kS.take i.1).map u32T)]⟩) (fun i => 64 - i.1) ⟨0, by omega⟩ (Wt (And.intro @List.take_zero.{0} <| @List.map_nil.{0, 0}) [1, 2, 3] [0, 1]) ?_
  intro ⟨i, hi⟩
  dsimp only
  by_cases hlt : (i : Int) < 64
  · have hi' : i < 64 := by omega
    obtain ⟨q, hq1, hq2⟩ := hroot i hi'
    have hsn : (kS.take (i + 1)).map u32T = (kS.take i).map u32T ++ [u32T (kS.getD i 0)] := by
      rw [List.take_succ_eq_append_getElem (by rw [hkl]; exact hi'), List.map_append]
      simp [show i < kS.length by rw [hkl]; exact hi']
    generalize kS.getD i 0 = r at *
    have hal : ((kS.take i).map u32T).length ≤ 64 := by simp; omega
    repeat refine St (And.intro hi' <| And.intro hPm <| And.intro hq1 <| And.intro hq2 <| And.intro @u32T.eq_def <| hal) ct25 ?_
    exact ⟨⟨i + 1, by omega⟩, (Wt (And.intro hsn <| @u32T.eq_def) [1, 2, 3] [0, 3]), by simp only; omega⟩
  · obtain rfl : i = 64 := by omega
    have ht : kS.take 64 = kS := List.take_of_length_le (by rw [hkl]; exact Nat.le_refl _)
    repeat refine St trivial ct25 ?_
    exact AWP.ret (Fin ht [] [1])

def F26 : Fun
  | [] => some ([.sq 1 (hS.map u32T)], .own 0)
  | _ => none

theorem ct26 : CT [(30, ⟨[false], treeG F30⟩), (31, ⟨[false, false], treeG F31⟩)] [0, 1, 2, 3, 7] [] := ⟨(.cons c30.g (.cons c31.g (.nil _)))⟩

set_option maxRecDepth 100000 in
theorem c26 : ACon Try.prog 26 F26 := by
  refine aconc E_ok (rs := [.tmp 0 39]) Try.func26 rfl Try.ntmps26 (by kernel_rfl) rfl (by decide) F26 (np := 0) ?_ ?_
  · intro ts h; unfold F26; split <;> first | rfl | (simp at h; done)
  intro ts H r hF hwf
  unfold F26 at hF
  split at hF <;> try (cases hF; done)
  cases hF
  have hp : F30 [.int .i64 8] = some ([.sq 1 (((pr 312).take 8).map n64)], .own 0) := primes_c 8 (by omega)
  have hPl : ((pr 312).take 8).length = 8 := by rw [List.length_take, pr_312]; rfl
  have hroot : ∀ i, i < 8 → ∃ q : Nat, (((pr 312).take 8).map n64).getD i default = .int .u64 (q : Int) ∧ F31 [.int .u64 (q : Int), .bool false] = some ([], .t (u32T (hS.getD i 0))) := fun i hi => by
    have hg := n64_getD (l := (pr 312).take 8) (i := i) (by omega)
    refine ⟨_, hg, ?_⟩
    have he := pr_take hi
    have hlt := pr_lt i (by omega)
    rw [← he] at hlt
    have hs := firsts_roots i hi
    rw [← he] at hs
    generalize ((pr 312).take 8).getD i 0 = q at *
    rw [root_c false hlt, hs]
  obtain ⟨P, hP⟩ : ∃ P, (pr 312).take 8 = P := ⟨_, rfl⟩
  rw [hP] at hp hPl hroot
  have hPm : (P.map n64).length = 8 := by simpa using hPl
  have hkl : hS.length = 8 := rfl
  repeat refine St (And.intro hp <| @clean_n64) ct26 ?_
  refine AWP.loop (G := { i : Nat // i ≤ 8 }) (fun i => ⟨[(1, .own 0), (2, .own 1), (3, .t (.int .i64 (i.1 : Int)))], [.sq 1 (P.map n64), .sq 1 ((hS.take i.1).map u32T)]⟩) (fun i => 8 - i.1) ⟨0, by omega⟩ (Wt (And.intro @List.take_zero.{0} <| @List.map_nil.{0, 0}) [1, 2, 3] [0, 1]) ?_
  intro ⟨i, hi⟩
  dsimp only
  by_cases hlt : (i : Int) < 8
  · have hi' : i < 8 := by omega
    obtain ⟨q, hq1, hq2⟩ := hroot i hi'
    have hsn : (hS.take (i + 1)).map u32T = (hS.take i).map u32T ++ [u32T (hS.getD i 0)] := by
      rw [List.take_succ_eq_append_getElem (by rw [hkl]; exact hi'), List.map_append]
      simp [show i < hS.length by rw [hkl]; exact hi']
    generalize hS.getD i 0 = r at *
    have hal : ((hS.take i).map u32T).length ≤ 64 := by simp; omega
    repeat refine St (And.intro hi' <| And.intro hPm <| And.intro hq1 <| And.intro hq2 <| And.intro @u32T.eq_def <| hal) ct26 ?_
    exact ⟨⟨i + 1, by omega⟩, (Wt (And.intro hsn <| @u32T.eq_def) [1, 2, 3] [0, 3]), by simp only; omega⟩
  · obtain rfl : i = 8 := by omega
    have ht : hS.take 8 = hS := List.take_of_length_le (by rw [hkl]; exact Nat.le_refl _)
    repeat refine St trivial ct26 ?_
    exact AWP.ret (Fin ht [] [1])

def F13 : Fun
  | [] => some ([], .t (.bool true))
  | _ => none

theorem ct13 : CT [(22, ⟨[], treeG F22⟩), (25, ⟨[], treeG F25⟩), (26, ⟨[], treeG F26⟩)] [0, 1, 2, 3, 4, 8, 19] [(5, [⟨0, [1], []⟩, ⟨0, [3], []⟩, ⟨1, [11, 12], []⟩, ⟨1, [13], [2]⟩, ⟨0, [2], []⟩, ⟨0, [3], []⟩, ⟨1, [15, 16], []⟩, ⟨1, [17], [6]⟩, ⟨0, [14, 18], [2, 3, 6, 7]⟩])] := ⟨(.cons c22.g (.cons c25.g (.cons c26.g (.nil _))))⟩

set_option maxRecDepth 100000 in
theorem c13 : ACon Try.prog 13 F13 := by
  refine aconc E_ok (rs := [.tmp 0 4]) Try.func13 rfl Try.ntmps13 (by kernel_rfl) rfl (by decide) F13 (np := 0) ?_ ?_
  · intro ts h; unfold F13; split <;> first | rfl | (simp at h; done)
  intro ts H r hF hwf
  unfold F13 at hF
  split at hF <;> try (cases hF; done)
  cases hF
  repeat refine St (And.intro @F25.eq_def <| And.intro @F22.eq_def <| @clean_u32) ct13 ?_
  refine AWP.loop (G := { i : Nat // i ≤ 64 }) (fun i => ⟨[(1, .own 0), (2, .own 1), (3, .t (.int .i64 (i.1 : Int)))], [.sq 1 (kS.map u32T), .sq 1 (kS.map u32T)]⟩) (fun i => 64 - i.1) ⟨0, by omega⟩ (Wt trivial [1, 2, 3] [0, 1]) ?_
  intro ⟨i, hi⟩
  dsimp only
  by_cases hlt : (i : Int) < 64
  · have hi' : i < 64 := by omega
    have hkl : (kS.map u32T).length = 64 := rfl
    have hkg : (List.map u32T kS).getD i default = .int .u32 ((kS.getD i 0).toNat : Int) := u32T_getD (by rw [kS_len]; exact hi')
    repeat refine St (And.intro hi' <| And.intro hkl <| hkg) ct13 ?_
    exact ⟨⟨i + 1, by omega⟩, (Wt trivial [1, 2, 3] [0, 1]), by simp only; omega⟩
  · repeat refine St (And.intro @F26.eq_def <| And.intro @hT_eq <| @clean_u32) ct13 ?_
    exact AWP.ret (Fin trivial [] [])

theorem abc_more : (shaL [97, 98, 99]).getD 1 0 = 120 ∧ (shaL [97, 98, 99]).getD 2 0 = 22 ∧ (shaL [97, 98, 99]).getD 3 0 = 191 ∧ (shaL [97, 98, 99]).getD 28 0 = 242 ∧ (shaL [97, 98, 99]).getD 29 0 = 0 ∧ (shaL [97, 98, 99]).getD 30 0 = 21 := by decide +kernel

def F5 : Fun
  | [] => some ([], .t (.bool true))
  | _ => none

theorem ct5 : CT [(10, ⟨[], treeG F10⟩), (11, ⟨[false], treeG F11⟩), (13, ⟨[], treeG F13⟩)] [0, 1] [] := ⟨(.cons c10.g (.cons c11.g (.cons c13.g (.nil _))))⟩

theorem c5 : ACon Try.prog 5 F5 := by
  refine aconc E_ok (rs := [.tmp 0 4]) Try.func5 rfl Try.ntmps5 (by kernel_rfl) rfl (by decide) F5 (np := 0) ?_ ?_
  · intro ts h; unfold F5; split <;> first | rfl | (simp at h; done)
  intro ts H r hF hwf
  unfold F5 at hF
  split at hF <;> try (cases hF; done)
  cases hF
  have h1 : F11 [.by [97, 98, 99]] = some ([], .t (.ba 32 (shaL [97, 98, 99]))) := shasum_c (by simp)
  have l1 := shaL_len [97, 98, 99]
  obtain ⟨a0, a1, a2, a3, a4, a5⟩ := abc_more
  obtain ⟨x, hx⟩ : ∃ x, shaL [97, 98, 99] = x := ⟨_, rfl⟩
  rw [hx] at h1 l1 a0 a1 a2 a3 a4 a5
  have b0 : ((x.getD 1 0).toNat : Int) = 120 := by rw [a0]; rfl
  have b1 : ((x.getD 2 0).toNat : Int) = 22 := by rw [a1]; rfl
  have b2 : ((x.getD 3 0).toNat : Int) = 191 := by rw [a2]; rfl
  have b3 : ((x.getD 28 0).toNat : Int) = 242 := by rw [a3]; rfl
  have b4 : ((x.getD 29 0).toNat : Int) = 0 := by rw [a4]; rfl
  have b5 : ((x.getD 30 0).toNat : Int) = 21 := by rw [a5]; rfl
  have e1 : (UInt8.ofNat 97 : UInt8) = 97 := rfl
  have e2 : (UInt8.ofNat 98 : UInt8) = 98 := rfl
  have e3 : (UInt8.ofNat 99 : UInt8) = 99 := rfl
  repeat refine St (And.intro h1 <| And.intro l1 <| And.intro b0 <| And.intro b1 <| And.intro b2 <| And.intro b3 <| And.intro b4 <| And.intro b5 <| And.intro e1 <| And.intro e2 <| And.intro e3 <| And.intro @u8.eq_def <| And.intro @F10.eq_def <| @F13.eq_def) ct5 ?_
  exact AWP.ret (Fin trivial [] [])

end Go.Fw

end
