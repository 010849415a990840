/- Plain words of lists whose elements change places. No program. -/
import Derived.Test.YtmpcoclgcldclaaC4
namespace Go.Proofs.Ytmpcoclgcldclaa
section
variable {α : Type} [BEq α]
theorem count_set_at : ∀ {T : List α} {i : Nat} {v c : α} (x : α), T[i]? = some v → (T.set i c).count x + (if v == x then 1 else 0) = T.count x + (if c == x then 1 else 0)
  | [], i, v, c, x, h => by simp at h
  | u :: T, 0, v, c, x, h => by
    have : u = v := by simpa using h
    subst this
    simp only [List.set_cons_zero, List.count_cons]
    omega
  | u :: T, i + 1, v, c, x, h => by
    have ih := count_set_at (T := T) (i := i) (v := v) (c := c) x (by simpa using h)
    simp only [List.set_cons_succ, List.count_cons]
    omega
theorem swap_perm [LawfulBEq α] {T : List α} {i j : Nat} {a b : α} (hi : T[i]? = some a) (hj : T[j]? = some b) : ((T.set i b).set j a).Perm T := by
  rw [List.perm_iff_count]
  intro x
  have hj' : (T.set i b)[j]? = some b := by
    by_cases e : i = j
    · subst e
      exact List.getElem?_set_self (List.getElem?_eq_some_iff.1 hi).1
    · rw [List.getElem?_set_ne e]; exact hj
  have h1 := count_set_at (c := b) x hi
  have h2 := count_set_at (c := a) x hj'
  omega
end
theorem perm_dropLast {α : Type} {T : List α} {p : α} (h : T.getLast? = some p) : T.Perm (p :: T.dropLast) := by
  have hne : T ≠ [] := fun e => by subst e; simp at h
  have e := List.dropLast_concat_getLast hne
  rw [List.getLast?_eq_some_getLast hne] at h
  have e2 := Option.some.inj h
  rw [e2] at e
  conv => lhs; rw [← e]
  exact List.perm_append_singleton p T.dropLast
end Go.Proofs.Ytmpcoclgcldclaa
