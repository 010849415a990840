/- Plain words of chains: no program. -/
import Derived.Test.YtmpcoclgcldclaaP
namespace Go.Proofs.Ytmpcoclgcldclaa
/-- one more state of a chain, from which x goes on -/
def chStep (k : Nat) (p : List Int × Nat) (x : Int) : List Int × Nat :=
  ((p.1 ++ List.replicate k 0).set (p.2 * k + x.toNat) ((p.2 : Int) + 1), p.2 + 1)
def chP (k : Nat) (ws : List Int) : List Int × Nat := ws.foldl (chStep k) (List.replicate k 0, 1)
def chN (k : Nat) (ws : List Int) : List Int := (chP k ws).1
theorem chP_snd (k : Nat) (ws : List Int) : (chP k ws).2 = ws.length + 1 := by
  unfold chP
  have : ∀ (l : List Int) (p : List Int × Nat), (l.foldl (chStep k) p).2 = p.2 + l.length := by
    intro l
    induction l with
    | nil => intro p; rfl
    | cons a l ih => intro p; rw [List.foldl_cons, ih]; simp [chStep]; omega
  rw [this]; simp; omega
theorem chN_length (k : Nat) (ws : List Int) : (chN k ws).length = (ws.length + 1) * k := by
  unfold chN chP
  have : ∀ (l : List Int) (p : List Int × Nat), (l.foldl (chStep k) p).1.length = p.1.length + l.length * k := by
    intro l
    induction l with
    | nil => intro p; simp
    | cons a l ih => intro p; rw [List.foldl_cons, ih]; simp [chStep, Nat.add_mul]; omega
  rw [this]; simp [Nat.add_mul]; omega
theorem chN_snoc (k : Nat) (ws : List Int) (x : Int) : chN k (ws ++ [x]) = (chN k ws ++ List.replicate k 0).set ((ws.length + 1) * k + x.toNat) ((ws.length : Int) + 2) := by
  have h : chP k (ws ++ [x]) = chStep k (chP k ws) x := by simp [chP, List.foldl_append]
  unfold chN
  rw [h]
  simp only [chStep, chP_snd]
  congr 1
def chTo (ws : List Int) (stays : Bool) : Int := if stays then (ws.length : Int) + 1 else 0
/-- the automaton of a chain -/
def chainD (k : Nat) (ws : List Int) (stays : Bool) : D :=
  { K := k, S := 1, N := chN k ws ++ List.replicate k (chTo ws stays), A := List.replicate (ws.length + 1) false ++ [true] }
def zeroD : D := { K := 0, S := 0, N := [], A := [] }
end Go.Proofs.Ytmpcoclgcldclaa
