/- Plain words of the ways to the states: what short's back puts down. No program. -/
import Derived.Test.YtmpcoclgcldclaaC2
namespace Go.Proofs.Ytmpcoclgcldclaa
/-- the ways to s among the first k -/
def waysT (d : D) : Nat → Int → List (Int × Int)
  | 0, _ => []
  | k + 1, s => if d.N.getD k 0 = s then waysT d k s ++ [((k : Int) / d.K, (k : Int) % d.K)] else waysT d k s
theorem waysT_hit {d : D} {k : Nat} {s : Int} (h : d.N.getD k 0 = s) : waysT d (k + 1) s = waysT d k s ++ [((k : Int) / d.K, (k : Int) % d.K)] := by
  simp only [waysT, if_pos h]
theorem waysT_miss {d : D} {k : Nat} {s : Int} (h : d.N.getD k 0 ≠ s) : waysT d (k + 1) s = waysT d k s := by
  simp only [waysT, if_neg h]
theorem waysT_len (d : D) (s : Int) : ∀ k, (waysT d k s).length ≤ k
  | 0 => Nat.le_refl _
  | k + 1 => by
    have := waysT_len d s k
    simp only [waysT]
    split
    · simp; omega
    · omega
theorem waysT_mem {d : D} {s : Int} {p : Int × Int} : ∀ {k : Nat}, p ∈ waysT d k s ↔ ∃ j, j < k ∧ d.N.getD j 0 = s ∧ p = ((j : Int) / d.K, (j : Int) % d.K)
  | 0 => by simp [waysT]
  | k + 1 => by
    have ih := waysT_mem (d := d) (s := s) (p := p) (k := k)
    constructor
    · intro h
      by_cases e : d.N.getD k 0 = s
      · rw [waysT_hit e, List.mem_append] at h
        rcases h with h | h
        · obtain ⟨j, h1, h2⟩ := ih.1 h
          exact ⟨j, by omega, h2⟩
        · exact ⟨k, by omega, e, by simpa using h⟩
      · rw [waysT_miss e] at h
        obtain ⟨j, h1, h2⟩ := ih.1 h
        exact ⟨j, by omega, h2⟩
    · rintro ⟨j, h1, h2, h3⟩
      by_cases e : d.N.getD k 0 = s
      · rw [waysT_hit e, List.mem_append]
        by_cases ej : j = k
        · subst ej; right; simpa using h3
        · left; exact ih.2 ⟨j, by omega, h2, h3⟩
      · rw [waysT_miss e]
        refine ih.2 ⟨j, ?_, h2, h3⟩
        have : j ≠ k := fun e2 => by subst e2; exact e h2
        omega
theorem waysT_to {d : D} (hok : d.Ok) (s : Int) : WaysTo d (waysT d d.N.length s) s := by
  have hK : 1 ≤ d.K := hok.1
  have hN : (d.N.length : Int) = d.A.length * d.K := hok.2.2.2.2.1
  constructor
  · intro p hp
    obtain ⟨j, h1, h2, rfl⟩ := waysT_mem.1 hp
    have hm := Int.emod_nonneg (j : Int) (show d.K ≠ 0 by omega)
    have hm2 := Int.emod_lt_of_pos (j : Int) (show 0 < d.K by omega)
    have he := Int.mul_ediv_add_emod (j : Int) d.K
    have hd0 : 0 ≤ (j : Int) / d.K := Int.ediv_nonneg (by omega) (by omega)
    have hd1 : (j : Int) / d.K < d.A.length := Int.ediv_lt_of_lt_mul (by omega) (by omega)
    refine ⟨⟨hd0, hd1⟩, ⟨hm, hm2⟩, ?_⟩
    have : ((j : Int) / d.K * d.K + (j : Int) % d.K).toNat = j := by rw [Int.mul_comm]; omega
    show d.N.getD _ 0 = s
    rw [this]; exact h2
  · intro r x hr hx hst
    refine waysT_mem.2 ⟨(r * d.K + x).toNat, ?_, hst, ?_⟩
    · have := hok.idx hr hx
      omega
    · have h0 := (hok.idx hr hx).1
      rw [Int.toNat_of_nonneg h0, Int.add_comm, Int.add_mul_ediv_right _ _ (by omega), Int.add_mul_emod_self_right, Int.ediv_eq_zero_of_lt hx.1 hx.2, Int.emod_eq_of_lt hx.1 hx.2]
      simp
end Go.Proofs.Ytmpcoclgcldclaa
