/- The abstract machine, and the contracts of the code: part 55. -/
import Derived.Test.YtchljppcenckaaaP54

section
/- Chapter 9: TxBack, TxOnly: their code walked. -/
namespace Go.Fw
open Go Go.Proofs
set_option linter.unusedVariables false
set_option linter.unusedSimpArgs false

noncomputable def F5 : Fun
  | [y, .by h, .int .i64 i] => match inv txT y with
    | some t => some ([], .t (.bool true))
    | none => none
  | _ => none

theorem ct5 : CT [(9, ⟨[], treeG F9⟩), (10, ⟨[false], treeG F10⟩), (12, ⟨[false], treeG F12⟩), (14, ⟨[false, false], treeG F14⟩), (15, ⟨[false], treeG F15⟩), (16, ⟨[false, false], treeG F16⟩), (17, ⟨[false], treeG F17⟩), (18, ⟨[false], treeG F18⟩)] [0, 1, 2, 3, 6, 7, 8, 9, 10, 12, 13, 14, 15, 23, 29, 60, 68, 83] [] := ⟨(.cons c9.g (.cons c10.g (.cons c12.g (.cons c14.g (.cons c15.g (.cons c16.g (.cons c17.g (.cons c18.g (.nil _)))))))))⟩

set_option maxRecDepth 20000 in
set_option maxHeartbeats 4000000 in
theorem c5 : ACon Try.prog 5 F5 := by
  refine aconc E_ok (rs := [.tmp 6 4]) Try.func5 rfl Try.ntmps5 (by kernel_rfl) rfl (by decide) F5 (np := 3) ?_ ?_
  · intro ts h; unfold F5; split <;> first | rfl | (simp at h; done)
  intro ts H r hF hwf
  unfold F5 at hF
  split at hF <;> try (cases hF; done)
  rename_i y h i
  split at hF <;> try (cases hF; done)
  rename_i t ht
  cases hF
  obtain rfl := inv_inv ht
  have h1 := rsml_t t
  have h2 := check_c t
  have h3 := who_t t
  have h4 := same_t t t
  have h5 := rsame_t t t
  rw [decide_eq_true (p := t = t) rfl] at h4 h5
  have hcase : (chkE t = 0 ∧ whoO t = wholeB t ∧ (wholeB t).length ≤ 12000 ∧ fitsB t = true) ∨ (chkE t = 4 ∧ whoO t = []) := by
    rcases chk_two t with ⟨e1, e2, e3⟩ | ⟨e1, e2⟩
    · exact .inl ⟨e1, if_pos (fit_of e2 e3), e3, fit_of e2 e3⟩
    · exact .inr ⟨e1, if_neg (by simp [e2])⟩
  cases hs1 : smallT t with
  | false =>
    rw [hs1] at h1
    rw [txT_st] at h1 h2 h3 ⊢
    repeat refine St (And.intro h1 <| @F9.eq_def) ct5 ?_
    exact AWP.ret (Fin trivial [] [])
  | true =>
  rw [hs1] at h1
  by_cases hb : 1500 < (h.length : Int)
  · rw [txT_st] at h1 h2 h3 ⊢
    repeat refine St (And.intro h1 <| And.intro hb <| @F9.eq_def) ct5 ?_
    exact AWP.ret (Fin trivial [] [])
  rcases hcase with ⟨e1, e2, e3, hf⟩ | ⟨e1, e2⟩
  case inr =>
    rw [e1] at h2
    rw [e2] at h3
    rw [txT_st] at h1 h2 h3 ⊢
    repeat refine St (And.intro h1 <| And.intro hb <| And.intro h2 <| And.intro h3 <| @F9.eq_def) ct5 ?_
    exact AWP.ret (Fin trivial [] [])
  rw [e1] at h2
  rw [e2] at h3
  have k1 := take_t (b := wholeB t ++ h) (by simp; omega)
  rw [takTx_put h hf] at k1
  have k1' : F10 [.by (wholeB t ++ h)] = some ([], .tup [.t (txT t), .t (.by h), .t (.int .i64 0)]) := k1
  have k2 := dec_t (b := wholeB t) (by omega)
  rw [decTx_put hf] at k2
  have k2' : F12 [.by (wholeB t)] = some ([], .tup [.t (txT t), .t (.int .i64 0)]) := k2
  have k3 : ∀ k, k < (wholeB t).length → F10 [.by ((wholeB t).take k)] = some ([], .tup [.t (.st [.int .u32 0, .sq 35 [], .sq 2 [], .int .u32 0]), .t (.by []), .t (.int .i64 2)]) := fun k hk => by
    have k4 := take_t (b := (wholeB t).take k) (by simp; omega)
    rw [takTx_cut hf hk] at k4
    exact k4
  rw [txT_st] at h1 h2 h3 h4 h5 k1' k2' ⊢
  generalize wholeB t = w at *
  have hhh : (h != h) = false := bne_self_eq_false _
  have hl1 : w.length ≤ 20000 := by omega
  have hl2 : w.length + h.length ≤ 20000 := by omega
  by_cases hi0 : 0 ≤ i
  · by_cases hi1 : i < (w.length : Int)
    · obtain ⟨k, rfl⟩ : ∃ k : Nat, i = (k : Int) := ⟨i.toNat, by omega⟩
      have k5 := k3 k (by omega)
      have hkl : k ≤ w.length := by omega
      repeat refine St (And.intro h1 <| And.intro hb <| And.intro h2 <| And.intro h3 <| And.intro h5 <| And.intro k1' <| And.intro hhh <| And.intro hl1 <| And.intro hl2 <| And.intro hi0 <| hi1) ct5 ?_
      repeat refine St (And.intro h1 <| And.intro hb <| And.intro h2 <| And.intro h3 <| And.intro h4 <| And.intro h5 <| And.intro k1' <| And.intro k2' <| And.intro k5 <| And.intro hkl <| And.intro hhh <| And.intro hl1 <| And.intro hl2 <| And.intro hi0 <| And.intro hi1 <| @F9.eq_def) ct5 ?_
      exact AWP.ret (Fin trivial [] [])
    · repeat refine St (And.intro h1 <| And.intro hb <| And.intro h2 <| And.intro h3 <| And.intro h4 <| And.intro h5 <| And.intro k1' <| And.intro k2' <| And.intro hhh <| And.intro hl1 <| And.intro hl2 <| And.intro hi0 <| And.intro hi1 <| @F9.eq_def) ct5 ?_
      exact AWP.ret (Fin trivial [] [])
  · repeat refine St (And.intro h1 <| And.intro hb <| And.intro h2 <| And.intro h3 <| And.intro h4 <| And.intro h5 <| And.intro k1' <| And.intro k2' <| And.intro hhh <| And.intro hl1 <| And.intro hl2 <| And.intro hi0 <| @F9.eq_def) ct5 ?_
    exact AWP.ret (Fin trivial [] [])

noncomputable def F6 : Fun
  | [.by b] => some ([], .t (.bool true))
  | _ => none

theorem ct6 : CT [(9, ⟨[], treeG F9⟩), (12, ⟨[false], treeG F12⟩), (16, ⟨[false, false], treeG F16⟩), (17, ⟨[false], treeG F17⟩), (18, ⟨[false], treeG F18⟩)] [0, 2, 3, 4, 6, 9, 17] [(7, [⟨1, [], [], []⟩, ⟨0, [33], [0], []⟩, ⟨1, [3], [0], []⟩, ⟨1, [35], [0, 2], []⟩, ⟨1, [36], [0, 2, 3], []⟩, ⟨0, [0], [0], []⟩, ⟨1, [38], [0], []⟩, ⟨0, [37, 39], [0, 2, 3, 4, 6], []⟩, ⟨0, [34, 40], [0, 2, 3, 4, 6], []⟩, ⟨0, [41], [0, 2, 3, 4, 6], []⟩, ⟨1, [3], [0, 2, 3, 4, 6], []⟩, ⟨1, [43], [0, 2, 3, 4, 6, 10], []⟩, ⟨0, [44], [0, 2, 3, 4, 6, 10, 11], []⟩, ⟨0, [42, 45], [0, 2, 3, 4, 6, 10, 11], []⟩, ⟨0, [46], [0, 2, 3, 4, 6, 10, 11], []⟩, ⟨0, [6], [0, 2, 3, 4, 6, 10, 11], []⟩, ⟨0, [48], [0, 2, 3, 4, 6, 10, 11], []⟩, ⟨0, [47, 49], [0, 2, 3, 4, 6, 10, 11], []⟩, ⟨0, [50], [0, 2, 3, 4, 6, 10, 11], []⟩])] := ⟨(.cons c9.g (.cons c12.g (.cons c16.g (.cons c17.g (.cons c18.g (.nil _))))))⟩

set_option maxRecDepth 20000 in
set_option maxHeartbeats 4000000 in
theorem c6 : ACon Try.prog 6 F6 := by
  refine aconc E_ok (rs := [.tmp 2 4]) Try.func6 rfl Try.ntmps6 (by kernel_rfl) rfl (by decide) F6 (np := 1) ?_ ?_
  · intro ts h; unfold F6; split <;> first | rfl | (simp at h; done)
  intro ts H r hF hwf
  unfold F6 at hF
  split at hF <;> try (cases hF; done)
  rename_i b
  cases hF
  by_cases hn : 1500 < (b.length : Int)
  · repeat refine St (And.intro hn <| @F9.eq_def) ct6 ?_
    exact AWP.ret (Fin trivial [] [])
  have h1 := dec_t (b := b) (by omega)
  cases hp : decTx b with
  | err e =>
    have he := decTx_err hp
    rw [hp] at h1
    have h1' : F12 [.by b] = some ([], .tup [.t (.st [.int .u32 0, .sq 35 [], .sq 2 [], .int .u32 0]), .t (.int .i64 e)]) := h1
    have h2 := same_t dTx dTx
    rw [decide_eq_true rfl, dTx_T] at h2
    have he' : (e != 0) = true := by simpa using he
    repeat refine St (And.intro hn <| And.intro h1' <| And.intro he' <| And.intro h2 <| @F9.eq_def) ct6 ?_
    exact AWP.ret (Fin trivial [] [])
  | ok t r =>
    obtain ⟨hf, hw, rfl⟩ := decTx_ok hp
    rw [hp] at h1
    have h1' : F12 [.by b] = some ([], .tup [.t (txT t), .t (.int .i64 0)]) := h1
    have h2 := dec_t (b := b ++ [UInt8.ofNat 0]) (by simp; omega)
    have h2m := decTx_more (t := t) (x := UInt8.ofNat 0) (r := []) hf
    rw [hw] at h2m
    rw [h2m] at h2
    have h2' : F12 [.by (b ++ [UInt8.ofNat 0])] = some ([], .tup [.t (.st [.int .u32 0, .sq 35 [], .sq 2 [], .int .u32 0]), .t (.int .i64 3)]) := h2
    have h3 := who_t t
    rw [show whoO t = wholeB t from if_pos hf, hw] at h3
    have h4 := check_c t
    rw [fits_chk hf] at h4
    rw [txT_st] at h1' h3 h4
    have hbb : (b == b) = true := beq_self_eq_true _
    have hl : b.length ≤ 2000 := by omega
    repeat refine St (And.intro hn <| And.intro h1' <| And.intro h2' <| And.intro h3 <| And.intro h4 <| And.intro hbb <| And.intro hl <| @F9.eq_def) ct6 ?_
    exact AWP.ret (Fin trivial [] [])

theorem shx_back (a : TTx) (h : List UInt8) (i : Int) : F5 [txT a, .by h, .int .i64 i] = some ([], .t (.bool true)) := by simp only [F5, inv_of txT_inj]

end Go.Fw

end
