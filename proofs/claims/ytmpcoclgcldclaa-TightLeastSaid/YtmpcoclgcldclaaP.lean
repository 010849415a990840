/- Plain words of automata: no program. -/
namespace Go.Proofs.Ytmpcoclgcldclaa
/-- an automaton as it comes in -/
structure D where
  K : Int
  S : Int
  N : List Int
  A : List Bool

/-- can it be? -/
def D.Ok (d : D) : Prop := 1 ≤ d.K ∧ d.K ≤ 512 ∧ 1 ≤ d.A.length ∧ d.A.length ≤ 65536 ∧ (d.N.length : Int) = d.A.length * d.K ∧ 0 ≤ d.S ∧ d.S < d.A.length ∧ ∀ s ∈ d.N, 0 ≤ s ∧ s < d.A.length
instance (d : D) : Decidable d.Ok := by unfold D.Ok; infer_instance
def D.right (d : D) : Bool := decide d.Ok
theorem D.right_true {d : D} : d.right = true ↔ d.Ok := by unfold D.right; exact decide_eq_true_iff
theorem D.right_false {d : D} : d.right = false ↔ ¬ d.Ok := by unfold D.right; exact decide_eq_false_iff_not

/-- out of range -/
def outB (n : Nat) (x : Int) : Bool := decide (x < 0 ∨ (n : Int) ≤ x)
theorem outB_any {n : Nat} {l : List Int} : l.any (outB n) = false ↔ ∀ s ∈ l, 0 ≤ s ∧ s < n := by
  simp only [List.any_eq_false, outB, decide_eq_true_eq]
  constructor
  · intro h s hs; have := h s hs; omega
  · intro h s hs; have := h s hs; omega
/-- are these numbers symbols? -/
def symsB (k : Int) (w : List Int) : Bool := w.all fun x => decide (0 ≤ x ∧ x < k)
theorem symsB_iff {k : Int} {w : List Int} : symsB k w = true ↔ ∀ x ∈ w, 0 ≤ x ∧ x < k := by
  simp [symsB]
def D.step (d : D) (s x : Int) : Int := d.N.getD (s * d.K + x).toNat 0
def D.run (d : D) (s : Int) (w : List Int) : Int := w.foldl d.step s
def D.acc (d : D) (s : Int) : Bool := d.A.getD s.toNat false
def D.tells (d : D) (w : List Int) : Bool := d.right && (symsB d.K w && d.acc (d.run d.S w))

theorem step_idx {n k : Nat} {s x : Int} (hs : 0 ≤ s ∧ s < n) (hx : 0 ≤ x ∧ x < k) : 0 ≤ s * k + x ∧ s * k + x < n * k := by
  obtain ⟨s', rfl⟩ := Int.eq_ofNat_of_zero_le hs.1
  obtain ⟨x', rfl⟩ := Int.eq_ofNat_of_zero_le hx.1
  have h1 : s' + 1 ≤ n := by omega
  have h2 : (s' + 1) * k ≤ n * k := Nat.mul_le_mul_right k h1
  have h3 : (s' + 1) * k = s' * k + k := Nat.succ_mul s' k
  have : s' * k + x' < n * k := by omega
  constructor
  · have : (0 : Int) ≤ (s' : Int) * k := Int.mul_nonneg (by omega) (by omega)
    omega
  · exact_mod_cast this

theorem D.Ok.idx {d : D} (h : d.Ok) {s x : Int} (hs : 0 ≤ s ∧ s < d.A.length) (hx : 0 ≤ x ∧ x < d.K) : 0 ≤ s * d.K + x ∧ s * d.K + x < d.N.length := by
  obtain ⟨h1, _, _, _, h5, _⟩ := h
  obtain ⟨k, hk⟩ := Int.eq_ofNat_of_zero_le (show 0 ≤ d.K by omega)
  rw [h5, hk]
  rw [hk] at hx
  exact step_idx hs hx

theorem D.Ok.step_lt {d : D} (h : d.Ok) {s x : Int} (hs : 0 ≤ s ∧ s < d.A.length) (hx : 0 ≤ x ∧ x < d.K) : 0 ≤ d.step s x ∧ d.step s x < d.A.length := by
  have hi := h.idx hs hx
  obtain ⟨_, _, _, _, _, _, _, h8⟩ := h
  unfold D.step
  have hlt : (s * d.K + x).toNat < d.N.length := by omega
  rw [List.getD_eq_getElem?_getD, List.getElem?_eq_getElem hlt, Option.getD_some]
  exact h8 _ (List.getElem_mem hlt)

theorem D.Ok.run_lt {d : D} (h : d.Ok) : ∀ (w : List Int) {s : Int}, 0 ≤ s ∧ s < d.A.length → symsB d.K w = true → 0 ≤ d.run s w ∧ d.run s w < d.A.length
  | [], s, hs, _ => hs
  | x :: w, s, hs, hw => by
    have hw' := symsB_iff.1 hw
    exact D.Ok.run_lt h w (h.step_lt hs (hw' x (by simp))) (symsB_iff.2 fun y hy => hw' y (by simp [hy]))
theorem D.Ok.mul_bd {d : D} (h : d.Ok) {s : Int} (hs : 0 ≤ s ∧ s < d.A.length) : 0 ≤ s * d.K ∧ s * d.K ≤ 33554432 := by
  obtain ⟨h1, h2, h3, h4, _⟩ := h
  constructor
  · exact Int.mul_nonneg (by omega) (by omega)
  · exact Int.le_trans (Int.mul_le_mul (show s ≤ 65536 by omega) (show d.K ≤ 512 by omega) (by omega) (by omega)) (by decide)
theorem D.run_snoc (d : D) (s : Int) (w : List Int) (x : Int) : d.run s (w ++ [x]) = d.step (d.run s w) x := by
  simp [D.run, List.foldl_append]
theorem take_snoc {α} {l : List α} {k : Nat} {x : α} (hx : l[k]? = some x) : l.take (k + 1) = l.take k ++ [x] := by
  rw [List.take_add_one, hx]; rfl
theorem symsB_snoc {k : Int} {w : List Int} {x : Int} : symsB k (w ++ [x]) = (symsB k w && decide (0 ≤ x ∧ x < k)) := by
  simp [symsB, List.all_append]
theorem symsB_no {k : Int} {w : List Int} {i : Nat} {x : Int} (hx : w[i]? = some x) (h : ¬ (0 ≤ x ∧ x < k)) : symsB k w = false := by
  rcases hb : symsB k w with _ | _
  · rfl
  · exact absurd (symsB_iff.1 hb x (List.mem_of_getElem? hx)) h
end Go.Proofs.Ytmpcoclgcldclaa
