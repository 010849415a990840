/- Plain words of pairs of states: no program. -/
import Derived.Test.YtmpcoclgcldclaaP2
namespace Go.Proofs.Ytmpcoclgcldclaa
def stepP (a b : D) (p : Int × Int) (x : Int) : Int × Int := (a.step p.1 x, b.step p.2 x)
def runP (a b : D) (w : List Int) : Int × Int := (a.run a.S w, b.run b.S w)
theorem runP_snoc (a b : D) (w : List Int) (x : Int) : runP a b (w ++ [x]) = stepP a b (runP a b w) x := by
  simp [runP, stepP, D.run_snoc]
/-- a pair that is come to -/
def Reached (a b : D) (p : Int × Int) : Prop := ∃ w, symsB a.K w = true ∧ p = runP a b w
theorem Reached.start (a b : D) : Reached a b (a.S, b.S) := ⟨[], rfl, rfl⟩
theorem Reached.step {a b : D} {p : Int × Int} (h : Reached a b p) {x : Int} (hx : 0 ≤ x ∧ x < a.K) : Reached a b (stepP a b p x) := by
  obtain ⟨w, hw, rfl⟩ := h
  exact ⟨w ++ [x], by rw [symsB_snoc, hw]; exact decide_eq_true hx, (runP_snoc a b w x).symm⟩
theorem Reached.lt {a b : D} {p : Int × Int} (h : Reached a b p) (ha : a.Ok) (hb : b.Ok) (hK : a.K = b.K) : (0 ≤ p.1 ∧ p.1 < a.A.length) ∧ (0 ≤ p.2 ∧ p.2 < b.A.length) := by
  obtain ⟨w, hw, rfl⟩ := h
  exact ⟨ha.run_lt w ⟨ha.2.2.2.2.2.1, ha.2.2.2.2.2.2.1⟩ hw, hb.run_lt w ⟨hb.2.2.2.2.2.1, hb.2.2.2.2.2.2.1⟩ (hK ▸ hw)⟩

theorem nodup_lt : ∀ (n : Nat) (l : List Nat), l.Nodup → (∀ x ∈ l, x < n) → l.length ≤ n
  | 0, l, _, h => by
    cases l with
    | nil => simp
    | cons x l => exact absurd (h x (by simp)) (by omega)
  | n + 1, l, hd, h => by
    by_cases hm : n ∈ l
    · have h1 := nodup_lt n (l.erase n) (hd.erase n) (fun x hx => by
        have h2 := h x (List.mem_of_mem_erase hx)
        have h3 : x ≠ n := fun e => by subst e; exact (hd.mem_erase_iff.1 hx).1 rfl
        omega)
      rw [List.length_erase_of_mem hm] at h1
      omega
    · have h1 := nodup_lt n l hd (fun x hx => by
        have h2 := h x hx
        have h3 : x ≠ n := fun e => hm (e ▸ hx)
        omega)
      omega
theorem pair_code {m : Nat} {p q : Int × Int} (hp : 0 ≤ p.2 ∧ p.2 < m) (hq : 0 ≤ q.2 ∧ q.2 < m) (hp1 : 0 ≤ p.1) (hq1 : 0 ≤ q.1) (h : p.1.toNat * m + p.2.toNat = q.1.toNat * m + q.2.toNat) : p = q := by
  obtain ⟨p1, p2⟩ := p
  obtain ⟨q1, q2⟩ := q
  simp only at *
  have hm : 0 < m := by omega
  have e1 : p2.toNat = q2.toNat := by
    have := congrArg (· % m) h
    simp only [Nat.mul_add_mod_self_right] at this
    rwa [Nat.mod_eq_of_lt (by omega), Nat.mod_eq_of_lt (by omega)] at this
  have e2 : p1.toNat * m = q1.toNat * m := by omega
  have e3 : p1.toNat = q1.toNat := Nat.eq_of_mul_eq_mul_right hm e2
  have : p1 = q1 := by omega
  have : p2 = q2 := by omega
  subst_vars
  rfl
theorem nodup_pairs {n m : Nat} {L : List (Int × Int)} (hd : L.Nodup) (h : ∀ p ∈ L, (0 ≤ p.1 ∧ p.1 < n) ∧ (0 ≤ p.2 ∧ p.2 < m)) : L.length ≤ n * m := by
  have h1 := nodup_lt (n * m) (L.map fun p => p.1.toNat * m + p.2.toNat) (by
    rw [List.Nodup, List.pairwise_map]
    refine hd.imp_of_mem ?_
    intro p q hp hq hne e
    exact hne (pair_code (h p hp).2 (h q hq).2 (h p hp).1.1 (h q hq).1.1 e)) (fun x hx => by
    obtain ⟨p, hp, rfl⟩ := List.mem_map.1 hx
    have := h p hp
    have h2 : p.1.toNat + 1 ≤ n := by omega
    have h3 := Nat.mul_le_mul_right m h2
    rw [Nat.add_mul, Nat.one_mul] at h3
    omega)
  simpa using h1
theorem nodup_subset_len {α} [BEq α] [LawfulBEq α] : ∀ {l l' : List α}, l.Nodup → (∀ x ∈ l, x ∈ l') → l.length ≤ l'.length
  | [], _, _, _ => by simp
  | x :: l, l', hd, h => by
    obtain ⟨h1, h2⟩ := List.nodup_cons.1 hd
    have h3 := nodup_subset_len (l := l) (l' := l'.erase x) h2 (fun y hy => by
      have hne : y ≠ x := fun e => h1 (e ▸ hy)
      exact (List.mem_erase_of_ne hne).2 (h y (by simp [hy])))
    rw [List.length_erase_of_mem (h x (by simp))] at h3
    have : 0 < l'.length := List.length_pos_of_mem (h x (by simp))
    simp only [List.length_cons]
    omega
end Go.Proofs.Ytmpcoclgcldclaa
