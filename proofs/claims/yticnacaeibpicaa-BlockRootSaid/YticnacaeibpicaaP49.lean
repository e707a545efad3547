/- The abstract machine, and the contracts of the code: part 49. -/
import Derived.Test.YticnacaeibpicaaP48

section
/- merkle: pairs, rows, roots. -/
namespace Go.Fw
open Go Go.Proofs
set_option linter.unusedVariables false
set_option linter.unusedSimpArgs false

def pairS (a b : Hs) : Hs := shaL (shaL (a ++ b))
theorem pairS_len (a b : Hs) : (pairS a b).length = 32 := shaL_len _
abbrev hT (h : Hs) : T := .ba 32 h
theorem hT_inj : ∀ a b : List Hs, a.map hT = b.map hT → a = b
  | [], [], _ => rfl
  | [], _ :: _, h => by simp at h
  | _ :: _, [], h => by simp at h
  | x :: a, y :: b, h => by
    simp only [List.map_cons, List.cons.injEq, T.ba.injEq, true_and] at h
    rw [h.1, hT_inj a b h.2]
noncomputable def asHs (xs : List T) : Option (List Hs) := inv (fun l : List Hs => l.map hT) xs
theorem asHs_map (l : List Hs) : asHs (l.map hT) = some l := inv_of hT_inj l
theorem asHs_inv {xs : List T} {l : List Hs} (h : asHs xs = some l) : xs = l.map hT := inv_inv (f := fun l : List Hs => l.map hT) h
theorem hs_wf {l : List Hs} (h : (T.sq 32 (l.map hT)).wf) : l.length ≤ maxLen ∧ ∀ x ∈ l, x.length = 32 := by
  simp only [T.wf, List.length_map] at h
  refine ⟨h.2.1, fun x hx => ?_⟩
  have := (T.wfL_iff _).1 h.2.2.2 (hT x) (List.mem_map_of_mem hx)
  simpa only [T.wf] using this
theorem hs_getD {l : List Hs} {i : Nat} (h : i < l.length) : (l.map hT).getD i default = .ba 32 (l.getD i []) := by simp [h]
theorem hs_at {l : List Hs} {i : Nat} (h : i < l.length) (hl : ∀ x ∈ l, x.length = 32) : (l.getD i []).length = 32 := by
  have : l.getD i [] = l[i] := by simp [h]
  rw [this]; exact hl _ (List.getElem_mem _)
theorem hs_snoc (l : List Hs) (x : Hs) : (l ++ [x]).map hT = l.map hT ++ [.ba 32 x] := by simp
theorem clean_hs (l : List Hs) : T.cleanL (l.map hT) = true := by
  induction l with
  | nil => rfl
  | cons x l ih => simp only [List.map_cons, T.cleanL, ih]; rfl
theorem liftS_32 {l : List Hs} : ∀ x ∈ liftS pairS l, x.length = 32 := by
  match l with
  | [] => intro x hx; simp [liftS] at hx
  | [a] => intro x hx; simp [liftS] at hx; rw [hx]; exact pairS_len _ _
  | a :: b :: l =>
    intro x hx
    simp only [liftS, List.mem_cons] at hx
    rcases hx with rfl | hx
    · exact pairS_len _ _
    · exact liftS_32 x hx
theorem lay1 {a : Hs} (h : a.length = 32) : laid (zby 64) a 0 32 = a ++ zby 32 := by
  unfold laid
  rw [List.take_of_length_le (by omega : a.length ≤ 32)]
  simp [zby]
theorem lay2 {a b : Hs} (h : a.length = 32) (hb : b.length = 32) : laid (a ++ zby 32) b 32 32 = a ++ b := by
  unfold laid
  rw [List.take_of_length_le (by omega : b.length ≤ 32), List.take_append_of_le_length (by omega), List.take_of_length_le (by omega : a.length ≤ 32)]
  simp [zby, h]

def F101 : Fun
  | [.ba 32 a, .ba 32 b] => some ([], .t (.ba 32 (pairS a b)))
  | _ => none

theorem ct101 : CT [(40, ⟨[false], treeG F40⟩)] [0, 1, 2, 3, 4, 5] [(2, [⟨1, [5], [], []⟩, ⟨1, [2], [], []⟩, ⟨2, [6, 7], [0, 1], []⟩]), (3, [⟨1, [5], [], []⟩, ⟨1, [3], [], []⟩, ⟨2, [9, 10], [0, 1], []⟩])] := ⟨(.cons c40.g (.nil _))⟩

theorem c101 : ACon Try.prog 101 F101 := by
  refine aconc E_ok (rs := [.cell 4 25]) Try.func101 rfl Try.ntmps101 (by kernel_rfl) rfl (by decide) F101 (np := 2) ?_ ?_
  · intro ts h; unfold F101; split <;> first | rfl | (simp at h; done)
  intro ts H r hF hwf
  unfold F101 at hF
  split at hF <;> try (cases hF; done)
  rename_i a b
  cases hF
  have ha : a.length = 32 := hwf (.ba 32 a) (by simp)
  have hb : b.length = 32 := hwf (.ba 32 b) (by simp)
  have h1 := lay1 ha
  have h2 := lay2 ha hb
  have h3 : F40 [.by (a ++ b)] = some ([], .t (.ba 32 (pairS a b))) := if_pos (by simp; omega)
  have hab : (a ++ b).length = 64 := by simp; omega
  have hz : (a ++ zby 32).length = 64 := by simp [zby]; omega
  have ta : a.take 32 = a := List.take_of_length_le (by omega)
  have tb : b.take 32 = b := List.take_of_length_le (by omega)
  have tab : (a ++ b).take 64 = a ++ b := List.take_of_length_le (by omega)
  have hmin : Nat.min 32 64 = 32 := rfl
  repeat refine St (And.intro ha <| And.intro hb <| And.intro @zby_len <| And.intro h1 <| And.intro h2 <| And.intro hab <| And.intro hz <| And.intro ta <| And.intro tb <| And.intro tab <| And.intro h3 <| hmin) ct101 ?_
  exact AWP.ret (Fin trivial [] [])

theorem hs_drop (l : List Hs) (k : Nat) : List.drop 2 (List.map hT (l.drop k)) = (l.drop (k + 2)).map hT := by
  rw [← List.map_drop, List.drop_drop]
theorem hs_d0 (l : List Hs) (k : Nat) (h : k < l.length) : (List.map hT (l.drop k)).getD 0 default = .ba 32 (l.getD k []) := by
  rw [hs_getD (by simp; omega)]; simp [List.getD_eq_getElem?_getD, List.getElem?_drop]
theorem hs_d1 (l : List Hs) (k : Nat) (h : k + 1 < l.length) : (List.map hT (l.drop k)).getD 1 default = .ba 32 (l.getD (k + 1) []) := by
  rw [hs_getD (by simp; omega)]; simp [List.getD_eq_getElem?_getD, List.getElem?_drop]

noncomputable def F80 : Fun
  | [.sq 32 xs] => match asHs xs with
    | some l => if l.length ≤ 1000000 then some ([], .tup [.t (.sq 32 ((liftS pairS l).map hT)), .t (.bool (alikeS l))]) else none
    | none => none
  | _ => none

theorem ct80 : CT [(101, ⟨[false, false], treeG F101⟩)] [0, 2, 3, 4, 5, 13, 38] [(5, [⟨0, [5], [], []⟩, ⟨0, [16], [], []⟩, ⟨0, [0], [], []⟩, ⟨1, [18], [], []⟩, ⟨1, [19], [3], []⟩, ⟨0, [0], [], []⟩, ⟨1, [21], [], []⟩, ⟨1, [22], [6], []⟩, ⟨0, [20, 23], [3, 4, 6, 7], []⟩, ⟨0, [17, 24], [3, 4, 6, 7], []⟩, ⟨0, [25], [3, 4, 6, 7], []⟩]), (6, [⟨0, [4], [], []⟩, ⟨0, [0], [], []⟩, ⟨1, [27], [], []⟩, ⟨1, [28], [2], []⟩, ⟨0, [0], [], []⟩, ⟨1, [30], [], []⟩, ⟨1, [31], [5], []⟩, ⟨1, [29, 32], [2, 3, 5, 6], []⟩, ⟨1, [33], [2, 3, 5, 6, 7], []⟩, ⟨2, [26, 34], [2, 3, 5, 6, 7, 8], []⟩, ⟨0, [35], [2, 3, 5, 6, 7, 8, 9], []⟩]), (8, [⟨0, [4], [], []⟩, ⟨0, [0], [], []⟩, ⟨1, [40], [], []⟩, ⟨1, [41], [2], []⟩, ⟨0, [0], [], []⟩, ⟨1, [43], [], []⟩, ⟨1, [44], [5], []⟩, ⟨1, [42, 45], [2, 3, 5, 6], []⟩, ⟨1, [46], [2, 3, 5, 6, 7], []⟩, ⟨2, [39, 47], [2, 3, 5, 6, 7, 8], []⟩, ⟨0, [48], [2, 3, 5, 6, 7, 8, 9], []⟩])] := ⟨(.cons c101.g (.nil _))⟩

set_option maxRecDepth 10000 in
set_option maxHeartbeats 2000000 in
theorem c80 : ACon Try.prog 80 F80 := by
  refine aconc E_ok (rs := [.tmp 2 75, .tmp 3 4]) Try.func80 rfl Try.ntmps80 (by kernel_rfl) rfl (by decide) F80 (np := 1) ?_ ?_
  · intro ts h; unfold F80; split <;> first | rfl | (simp at h; done)
  intro ts H r hF hwf
  unfold F80 at hF
  split at hF <;> try (cases hF; done)
  rename_i xs
  split at hF <;> try (cases hF; done)
  rename_i l hl
  split at hF
  case isFalse => cases hF
  rename_i hc
  have hn := hc
  cases hF
  obtain rfl := asHs_inv hl
  obtain ⟨_, h32⟩ := hs_wf (hwf (.sq 32 (l.map hT)) (by simp))
  have hq : IntKind.i64.wrap (Int.tdiv ((l.length : Int) + 1) 2) = (((l.length + 1) / 2 : Nat) : Int) := by
    rw [Int.tdiv_eq_ediv_of_nonneg (by omega), wrap_i64 (by omega) (by omega)]; omega
  have hcap : (l.length + 1) / 2 ≤ 1000001 := by omega
  repeat refine St (And.intro hq <| hcap) ct80 ?_
  refine AWP.loop (G := { k : Nat // k % 2 = 0 ∧ k ≤ l.length }) (fun k => ⟨[(0, .t (.sq 32 ((l.drop k.1).map hT))), (4, .own 0), (5, .t (.bool (alikeS (l.take k.1))))], [.sq 32 ((liftS pairS (l.take k.1)).map hT)]⟩) (fun k => l.length - k.1) ⟨0, by omega⟩ (Wt (And.intro @List.take_zero.{0} <| And.intro @List.drop_zero.{0} <| And.intro (And.intro @liftS.eq_1 <| And.intro @liftS.eq_2 <| @liftS.eq_3) <| (And.intro @alikeS.eq_1 <| @alikeS.eq_2)) [0, 4, 5] [0]) ?_
  intro ⟨k, hk2, hk⟩
  dsimp only
  have hdl : (l.drop k).length = l.length - k := by simp
  have hll := liftS_len pairS (l.take k)
  have htl : (l.take k).length = k := by simp; omega
  rw [htl] at hll
  by_cases h1 : 1 < ((l.drop k).length : Int)
  · have hk1 : k + 1 < l.length := by omega
    have g0 := hs_d0 l k (by omega)
    have g1 := hs_d1 l k (by omega)
    have hdr := hs_drop l k
    have hls := liftS_two pairS l k hk1 hk2
    have hal := alikeS_two l k hk1 hk2
    have l0 : 0 < (l.drop k).length := by omega
    have l1 : 1 < (l.drop k).length := by omega
    have l2 : 2 ≤ (l.drop k).length := by omega
    have hup : ((liftS pairS (l.take k)).map hT).length ≤ 1000000 := by simp; omega
    generalize l.getD k [] = a at *
    generalize l.getD (k + 1) [] = b at *
    have hp : F101 [.ba 32 a, .ba 32 b] = some ([], .t (.ba 32 (pairS a b))) := rfl
    have hsn := hs_snoc (liftS pairS (l.take k)) (pairS a b)
    rw [← hls] at hsn
    cases ha : alikeS (l.take k)
    · rw [ha, Bool.false_or] at hal
      repeat refine St (And.intro h1 <| And.intro g0 <| And.intro g1 <| And.intro l0 <| And.intro l1 <| And.intro l2 <| And.intro hdr <| And.intro hp <| hup) ct80 ?_
      exact ⟨⟨k + 2, by omega, by omega⟩, (Wt (And.intro hsn <| hal) [0, 4, 5] [2]), by simp only; omega⟩
    · rw [ha, Bool.true_or] at hal
      repeat refine St (And.intro h1 <| And.intro g0 <| And.intro g1 <| And.intro l0 <| And.intro l1 <| And.intro l2 <| And.intro hdr <| And.intro hp <| hup) ct80 ?_
      exact ⟨⟨k + 2, by omega, by omega⟩, (Wt (And.intro hsn <| hal) [0, 4, 5] [2]), by simp only; omega⟩
  · by_cases he : k + 1 = l.length
    · have g0 := hs_d0 l k (by omega)
      have hls := liftS_one pairS l k he hk2
      have hal := alikeS_one l k he hk2
      have l0 : 0 < (l.drop k).length := by omega
      have heq : (((l.drop k).length : Int) == 1) = true := by rw [beq_iff_eq]; omega
      have hup : ((liftS pairS (l.take k)).map hT).length ≤ 1000000 := by simp; omega
      generalize l.getD k [] = a at *
      have hp : F101 [.ba 32 a, .ba 32 a] = some ([], .t (.ba 32 (pairS a a))) := rfl
      have hsn := hs_snoc (liftS pairS (l.take k)) (pairS a a)
      rw [← hls] at hsn
      repeat refine St (And.intro h1 <| And.intro heq <| And.intro g0 <| And.intro l0 <| And.intro hp <| hup) ct80 ?_
      exact AWP.ret (Fin (And.intro hsn <| hal) [2] [])
    · obtain rfl : k = l.length := by omega
      have heq : (((l.drop l.length).length : Int) == 1) = false := by rw [beq_eq_false_iff_ne]; omega
      rw [List.take_length]
      repeat refine St (And.intro h1 <| heq) ct80 ?_
      exact AWP.ret (Fin trivial [0] [])

theorem lift_c {l : List Hs} (h : l.length ≤ 1000000) : F80 [.sq 32 (l.map hT)] = some ([], .tup [.t (.sq 32 ((liftS pairS l).map hT)), .t (.bool (alikeS l))]) := by
  simp only [F80, asHs_map]; exact if_pos h

end Go.Fw

end
