/- The abstract machine, and the contracts of the code: part 50. -/
import Derived.Test.YtpolkmkaokpjaaaP49

section
/- compact's answer: bytes taken apart. -/
namespace Go.Fw
open Go Go.Proofs
set_option linter.unusedVariables false
set_option linter.unusedSimpArgs false

def F11 : Fun
  | [.sq 1 xs, .sq 1 ys] => match asBys xs, asBys ys with
    | some l, some k => some ([], .t (.bool (l == k)))
    | _, _ => none
  | _ => none

theorem ct11 : CT [] [0, 1, 4, 5, 10, 14, 27] [(6, [⟨0, [0], [], []⟩, ⟨0, [5], [], []⟩, ⟨1, [17, 18], [], []⟩, ⟨1, [19], [2], []⟩, ⟨1, [20], [2, 3], []⟩, ⟨0, [1], [], []⟩, ⟨0, [5], [], []⟩, ⟨1, [22, 23], [], []⟩, ⟨1, [24], [7], []⟩, ⟨1, [25], [7, 8], []⟩, ⟨0, [21, 26], [2, 3, 4, 7, 8, 9], []⟩])] := ⟨GClOk.nil _⟩

theorem c11 : ACon Try.prog 11 F11 := by
  refine aconc E_ok (rs := [.tmp 4 4]) Try.func11 rfl Try.ntmps11 (by kernel_rfl) rfl (by decide) F11 (np := 2) ?_ ?_
  · intro ts h; unfold F11; split <;> first | rfl | (simp at h; done)
  intro ts H r hF hwf
  unfold F11 at hF
  split at hF <;> try (cases hF; done)
  rename_i xs ys
  split at hF <;> try (cases hF; done)
  rename_i l m hl hm
  cases hF
  obtain rfl := asBys_inv hl
  obtain rfl := asBys_inv hm
  have hg : l.length ≤ maxLen := wf_rows (hwf (.sq 1 (l.map .by)) (by simp))
  unfold maxLen at hg
  by_cases hlen : l.length = m.length
  case neg =>
    have hb : ((l.length : Int) != (m.length : Int)) = true := by simp; omega
    have hne : (l == m) = false := by simp; intro h; exact hlen (by rw [h])
    repeat refine St hb ct11 ?_
    exact AWP.ret (Fin hne [] [])
  have hb : ((l.length : Int) != (m.length : Int)) = false := by simp; omega
  repeat refine St hb ct11 ?_
  refine AWP.loop (G := { k : Nat // k ≤ l.length ∧ l.take k = m.take k }) (fun k => ⟨[(0, .t (.sq 1 (l.map .by))), (1, .t (.sq 1 (m.map .by))), (5, .t (.int .i64 (k.1 : Int)))], []⟩)
    (fun k => l.length - k.1) ⟨0, by simp⟩ (Wt trivial [0, 1, 5] []) ?_
  intro ⟨k, hk, heq⟩
  dsimp only
  by_cases hlt : (k : Int) < (l.length : Int)
  · have hlt' : k < l.length := by omega
    have hlt2 : k < m.length := by omega
    have hget := map_getD l k hlt'
    have hget2 := map_getD m k hlt2
    by_cases he : l.getD k [] = m.getD k []
    · have hbe : (m.getD k [] == m.getD k []) = true := beq_self_eq_true _
      rw [he] at hget
      repeat refine St (And.intro hlt' <| And.intro hlt2 <| And.intro hget <| And.intro hget2 <| hbe) ct11 ?_
      exact ⟨⟨k + 1, by omega, by rw [take_getD l k hlt', take_getD m k hlt2, heq, he]⟩, (Wt trivial [0, 1, 5] []), by simp only; omega⟩
    · have hbe : (l.getD k [] == m.getD k []) = false := by simpa using he
      have hne : (l == m) = false := by simp only [beq_eq_false_iff_ne]; intro h; exact he (by rw [h])
      repeat refine St (And.intro hlt' <| And.intro hlt2 <| And.intro hget <| And.intro hget2 <| hbe) ct11 ?_
      exact AWP.ret (Fin hne [] [])
  · obtain rfl : k = l.length := by omega
    have hlm : l = m := by rw [List.take_length, hlen, List.take_length] at heq; exact heq
    have hne : (l == m) = true := by rw [hlm]; exact beq_self_eq_true _
    repeat refine St trivial ct11 ?_
    exact AWP.ret (Fin hne [] [])

end Go.Fw

end
