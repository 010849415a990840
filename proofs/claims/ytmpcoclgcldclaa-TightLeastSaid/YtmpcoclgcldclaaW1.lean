/- Plain words of chains: what the automaton of a chain tells. No program. -/
import Derived.Test.YtmpcoclgcldclaaP2
namespace Go.Proofs.Ytmpcoclgcldclaa
/-- does a word begin with another one? -/
def beginsB (ws pre : List Int) : Bool := decide (ws.take pre.length = pre)

theorem getD_append_left {l m : List Int} {i : Nat} (h : i < l.length) : (l ++ m).getD i 0 = l.getD i 0 := by
  rw [List.getD_eq_getElem?_getD, List.getD_eq_getElem?_getD, List.getElem?_append_left h]
theorem getD_append_right {l m : List Int} {i : Nat} (h : l.length ≤ i) : (l ++ m).getD i 0 = m.getD (i - l.length) 0 := by
  rw [List.getD_eq_getElem?_getD, List.getD_eq_getElem?_getD, List.getElem?_append_right h]
theorem getD_replicate {n i : Nat} {a : Int} (h : i < n) : (List.replicate n a).getD i 0 = a := by
  rw [List.getD_eq_getElem?_getD, List.getElem?_replicate_of_lt h]; rfl
theorem getD_set_eq {l : List Int} {i : Nat} {a : Int} (h : i < l.length) : (l.set i a).getD i 0 = a := by
  rw [List.getD_eq_getElem?_getD, List.getElem?_set_self h]; rfl
theorem getD_set_ne {l : List Int} {i j : Nat} {a : Int} (h : i ≠ j) : (l.set i a).getD j 0 = l.getD j 0 := by
  rw [List.getD_eq_getElem?_getD, List.getElem?_set_ne h, List.getD_eq_getElem?_getD]
theorem row_lt {s n x k : Nat} (hs : s < n) (hx : x < k) : s * k + x < n * k := by
  have h2 : (s + 1) * k ≤ n * k := Nat.mul_le_mul_right k hs
  rw [Nat.add_mul, Nat.one_mul] at h2
  omega
theorem row_inj {s t x y k : Nat} (hx : x < k) (hy : y < k) (h : s * k + x = t * k + y) : s = t ∧ x = y := by
  have hk : 0 < k := by omega
  have e1 : x = y := by
    have := congrArg (· % k) h
    simp only [Nat.mul_add_mod_self_right] at this
    rwa [Nat.mod_eq_of_lt hx, Nat.mod_eq_of_lt hy] at this
  subst e1
  exact ⟨Nat.eq_of_mul_eq_mul_right hk (by omega), rfl⟩
/-- where a chain goes from its states but the last -/
theorem chN_at (k : Nat) : ∀ (ws : List Int), (∀ x ∈ ws, 0 ≤ x ∧ x < k) → ∀ (s x : Nat), s ≤ ws.length → x < k →
    (chN k ws).getD (s * k + x) 0 = if 1 ≤ s ∧ ws[s - 1]? = some (x : Int) then (s : Int) + 1 else 0 := by
  suffices H : ∀ (n : Nat) (ws : List Int), ws.length = n → (∀ x ∈ ws, 0 ≤ x ∧ x < k) → ∀ (s x : Nat), s ≤ ws.length → x < k →
    (chN k ws).getD (s * k + x) 0 = if 1 ≤ s ∧ ws[s - 1]? = some (x : Int) then (s : Int) + 1 else 0 from fun ws => H _ ws rfl
  intro n
  induction n with
  | zero =>
    intro ws hl _ s x hs hx
    obtain rfl := List.eq_nil_of_length_eq_zero hl
    have hs0 : s = 0 := by simpa using hs
    subst hs0
    have e : chN k [] = List.replicate k 0 := rfl
    rw [e, getD_replicate (by omega)]
    simp
  | succ n ih =>
    intro ws hl hw s x hs hx
    have hne : ws ≠ [] := by intro e; subst e; simp at hl
    obtain ⟨u, z, rfl⟩ : ∃ u z, ws = u ++ [z] := ⟨ws.dropLast, ws.getLast hne, (List.dropLast_concat_getLast hne).symm⟩
    have hul : u.length = n := by simpa using hl
    have hu : ∀ x ∈ u, 0 ≤ x ∧ x < k := fun x hx => hw x (by simp [hx])
    obtain ⟨hz0, hz1⟩ := hw z (by simp)
    obtain ⟨z', rfl⟩ := Int.eq_ofNat_of_zero_le hz0
    have hz2 : z' < k := by omega
    rw [chN_snoc, Int.toNat_natCast]
    have hlen := chN_length k u
    have hsl : s ≤ u.length + 1 := by simpa using hs
    have hcl : (chN k u ++ List.replicate k 0).length = (u.length + 2) * k := by
      rw [List.length_append, hlen, List.length_replicate, ← Nat.succ_mul]
    by_cases h1 : s = u.length + 1
    · subst h1
      have e1 : (u ++ [(z' : Int)])[u.length + 1 - 1]? = some (z' : Int) := by simp
      rw [e1]
      by_cases h2 : x = z'
      · subst h2
        rw [getD_set_eq (by rw [hcl]; exact row_lt (by omega) hx)]
        rw [if_pos ⟨by omega, rfl⟩]
        omega
      · have hne2 : (u.length + 1) * k + z' ≠ (u.length + 1) * k + x := by omega
        rw [getD_set_ne hne2]
        rw [getD_append_right (by rw [hlen]; omega), hlen]
        rw [show (u.length + 1) * k + x - (u.length + 1) * k = x by omega, getD_replicate hx]
        rw [if_neg]
        rintro ⟨_, h3⟩
        exact h2 (by have := Option.some.inj h3; omega)
    · have hsu : s ≤ u.length := by omega
      have hne2 : (u.length + 1) * k + z' ≠ s * k + x := fun e => h1 (row_inj hz2 hx e).1.symm
      rw [getD_set_ne hne2]
      rw [getD_append_left (by rw [hlen]; exact row_lt (by omega) hx)]
      rw [ih u hul hu s x hsu hx]
      by_cases h3 : 1 ≤ s
      · rw [List.getElem?_append_left (show s - 1 < u.length by omega)]
      · rw [if_neg (fun h => h3 h.1), if_neg (fun h => h3 h.1)]
theorem chainD_len (k : Nat) (ws : List Int) (st : Bool) : (chainD k ws st).A.length = ws.length + 2 := by simp [chainD]
theorem chainD_step {k : Nat} {ws : List Int} {st : Bool} (hw : ∀ x ∈ ws, 0 ≤ x ∧ x < k) {s x : Nat} (hs : s ≤ ws.length + 1) (hx : x < k) :
    (chainD k ws st).step s x = if s = ws.length + 1 then chTo ws st else if 1 ≤ s ∧ ws[s - 1]? = some (x : Int) then (s : Int) + 1 else 0 := by
  have e : ((s : Int) * (k : Int) + (x : Int)).toNat = s * k + x := by
    have h : (s : Int) * (k : Int) + (x : Int) = ((s * k + x : Nat) : Int) := by simp
    rw [h, Int.toNat_natCast]
  show (chN k ws ++ List.replicate k (chTo ws st)).getD ((s : Int) * (k : Int) + (x : Int)).toNat 0 = _
  rw [e]
  have hlen := chN_length k ws
  by_cases h1 : s = ws.length + 1
  · subst h1
    rw [if_pos rfl, getD_append_right (by rw [hlen]; omega), hlen, show (ws.length + 1) * k + x - (ws.length + 1) * k = x by omega, getD_replicate hx]
  · rw [if_neg h1, getD_append_left (by rw [hlen]; exact row_lt (by omega) hx)]
    exact chN_at k ws hw s x (by omega) hx
theorem chN_range {k : Nat} : ∀ (ws : List Int), ∀ s ∈ chN k ws, 0 ≤ s ∧ s < (ws.length : Int) + 2 := by
  suffices H : ∀ (n : Nat) (ws : List Int), ws.length = n → ∀ s ∈ chN k ws, 0 ≤ s ∧ s < (ws.length : Int) + 2 from fun ws => H _ ws rfl
  intro n
  induction n with
  | zero =>
    intro ws hl s hs
    obtain rfl := List.eq_nil_of_length_eq_zero hl
    have e : chN k [] = List.replicate k 0 := rfl
    rw [e] at hs
    have := (List.mem_replicate.1 hs).2
    subst this
    simp
  | succ n ih =>
    intro ws hl s hs
    have hne : ws ≠ [] := by intro e; subst e; simp at hl
    obtain ⟨u, z, rfl⟩ : ∃ u z, ws = u ++ [z] := ⟨ws.dropLast, ws.getLast hne, (List.dropLast_concat_getLast hne).symm⟩
    have hul : u.length = n := by simpa using hl
    rw [chN_snoc] at hs
    have hl2 : (((u ++ [z]).length : Nat) : Int) = (u.length : Int) + 1 := by simp
    rw [hl2]
    rcases List.mem_or_eq_of_mem_set hs with h | h
    · rcases List.mem_append.1 h with h | h
      · have := ih u hul s h
        omega
      · have := (List.mem_replicate.1 h).2
        omega
    · omega
theorem chainD_ok {k : Nat} {ws : List Int} {st : Bool} (hk1 : 1 ≤ k) (hk2 : k ≤ 512) (hl : ws.length ≤ 60000) : (chainD k ws st).Ok := by
  have hA := chainD_len k ws st
  refine ⟨by show (1 : Int) ≤ (k : Int); omega, by show (k : Int) ≤ 512; omega, by omega, by omega, ?_, by show (0 : Int) ≤ 1; omega, by rw [hA]; show (1 : Int) < _; omega, ?_⟩
  · rw [hA]
    show (((chN k ws ++ List.replicate k (chTo ws st)).length : Nat) : Int) = ((ws.length + 2 : Nat) : Int) * (k : Int)
    rw [List.length_append, chN_length, List.length_replicate, ← Nat.succ_mul]
    rw [Int.natCast_mul]
  · intro s hs
    rw [hA]
    rcases List.mem_append.1 (show s ∈ chN k ws ++ List.replicate k (chTo ws st) from hs) with h | h
    · have := chN_range ws s h
      omega
    · have := (List.mem_replicate.1 h).2
      unfold chTo at this
      split at this <;> omega
/-- once out, always out -/
theorem chainD_out {k : Nat} {ws : List Int} {st : Bool} (hw : ∀ x ∈ ws, 0 ≤ x ∧ x < k) : ∀ (u : List Int), symsB k u = true → (chainD k ws st).run 0 u = 0
  | [], _ => rfl
  | x :: u, h => by
    have h' := symsB_iff.1 h
    obtain ⟨h0, h1⟩ := h' x (by simp)
    obtain ⟨x', rfl⟩ := Int.eq_ofNat_of_zero_le h0
    have e : (chainD k ws st).step ((0 : Nat) : Int) (x' : Int) = 0 := by
      rw [chainD_step hw (by omega) (by omega), if_neg (by omega), if_neg (by omega)]
    show (chainD k ws st).run ((chainD k ws st).step 0 (x' : Int)) u = 0
    rw [show (0 : Int) = ((0 : Nat) : Int) from rfl, e]
    exact chainD_out hw u (symsB_iff.2 fun y hy => h' y (by simp [hy]))
theorem chainD_acc {k : Nat} {ws : List Int} {st : Bool} {s : Nat} : (chainD k ws st).acc s = decide (s = ws.length + 1) := by
  show (List.replicate (ws.length + 1) false ++ [true]).getD (s : Int).toNat false = _
  rw [Int.toNat_natCast, List.getD_eq_getElem?_getD]
  by_cases h : s = ws.length + 1
  · subst h
    rw [List.getElem?_append_right (by simp)]
    simp
  · rcases Nat.lt_or_gt_of_ne h with h1 | h1
    · rw [List.getElem?_append_left (by simpa using h1), List.getElem?_replicate_of_lt h1]
      simp [h]
    · rw [List.getElem?_eq_none (by simp; omega)]
      simp [h]
theorem chainD_run {k : Nat} {ws : List Int} {st : Bool} (hw : ∀ x ∈ ws, 0 ≤ x ∧ x < k) : ∀ (u : List Int) (i : Nat), i ≤ ws.length → symsB k u = true →
    (chainD k ws st).acc ((chainD k ws st).run ((i + 1 : Nat) : Int) u) = (beginsB u (ws.drop i) && (st || decide (u.length = (ws.drop i).length)))
  | [], i, hi, _ => by
    show (chainD k ws st).acc ((i + 1 : Nat) : Int) = _
    rw [chainD_acc]
    by_cases h : i = ws.length
    · subst h
      simp [beginsB]
    · have hd : ws.drop i ≠ [] := by
        intro e
        have := congrArg List.length e
        rw [List.length_drop, List.length_nil] at this
        omega
      have h1 : beginsB [] (ws.drop i) = false := decide_eq_false (by simpa using fun e => hd e)
      rw [h1, decide_eq_false (by omega)]
      rfl
  | x :: u, i, hi, h => by
    have h' := symsB_iff.1 h
    obtain ⟨h0, h1⟩ := h' x (by simp)
    obtain ⟨x', rfl⟩ := Int.eq_ofNat_of_zero_le h0
    have hu : symsB k u = true := symsB_iff.2 fun y hy => h' y (by simp [hy])
    show (chainD k ws st).acc ((chainD k ws st).run ((chainD k ws st).step ((i + 1 : Nat) : Int) (x' : Int)) u) = _
    rw [chainD_step hw (by omega) (by omega)]
    by_cases h2 : i = ws.length
    · subst h2
      rw [if_pos rfl, List.drop_length]
      have hb : ∀ v, beginsB v [] = true := fun v => decide_eq_true (by simp)
      rw [hb]
      cases st
      · have e : chTo ws false = 0 := rfl
        rw [e, chainD_out hw u hu, show (0 : Int) = ((0 : Nat) : Int) from rfl, chainD_acc]
        simp
      · have e : chTo ws true = ((ws.length + 1 : Nat) : Int) := by simp [chTo]
        rw [e, chainD_run hw u ws.length (Nat.le_refl _) hu, List.drop_length, hb]
        rfl
    · have hlt : i < ws.length := by omega
      rw [if_neg (by omega), show i + 1 - 1 = i by omega]
      have hd := List.drop_eq_getElem_cons hlt
      have hg : ws[i]? = some ws[i] := List.getElem?_eq_getElem hlt
      rw [hg, hd]
      by_cases h3 : ws[i] = (x' : Int)
      · rw [if_pos ⟨by omega, by rw [h3]⟩]
        have e : ((i + 1 : Nat) : Int) + 1 = ((i + 1 + 1 : Nat) : Int) := by omega
        rw [e, chainD_run hw u (i + 1) (by omega) hu]
        have e2 : beginsB ((x' : Int) :: u) (ws[i] :: ws.drop (i + 1)) = beginsB u (ws.drop (i + 1)) := by
          unfold beginsB
          simp [h3]
        rw [e2]
        have e3 : decide ((↑x' :: u).length = (ws[i] :: ws.drop (i + 1)).length) = decide (u.length = (ws.drop (i + 1)).length) := by
          simp only [List.length_cons, Nat.add_right_cancel_iff]
        rw [e3]
      · rw [if_neg (fun h => h3 (Option.some.inj h.2)), chainD_out hw u hu, show (0 : Int) = ((0 : Nat) : Int) from rfl, chainD_acc]
        have e2 : beginsB ((x' : Int) :: u) (ws[i] :: ws.drop (i + 1)) = false := decide_eq_false (by
          simp only [List.length_cons, List.take_succ_cons, List.cons.injEq, not_and]
          intro e; exact absurd e.symm h3)
        rw [e2]
        simp
/-- what a chain tells -/
theorem chainD_tells {k : Nat} {ws : List Int} {st : Bool} (hk1 : 1 ≤ k) (hk2 : k ≤ 512) (hl : ws.length ≤ 60000) (hw : symsB k ws = true) (u : List Int) :
    (chainD k ws st).tells u = (symsB k u && (beginsB u ws && (st || decide (u.length = ws.length)))) := by
  have hr : (chainD k ws st).right = true := D.right_true.2 (chainD_ok hk1 hk2 hl)
  unfold D.tells
  rw [hr]
  show (true && (symsB (k : Int) u && _)) = _
  cases hu : symsB (k : Int) u
  · rfl
  · simp only [Bool.true_and]
    have := chainD_run (st := st) (symsB_iff.1 hw) u 0 (by omega) hu
    rw [List.drop_zero] at this
    exact this
theorem noneD_tells_none (k : Nat) : ∀ (u : List Int), (D.mk k 0 (List.replicate k 0) [false]).acc ((D.mk k 0 (List.replicate k 0) [false]).run 0 u) = false := by
  intro u
  generalize (D.mk k 0 (List.replicate k 0) [false]).run 0 u = s
  show [false].getD s.toNat false = false
  rcases s.toNat with _ | n <;> simp
end Go.Proofs.Ytmpcoclgcldclaa
