/- Plain laws of the sets of paths: what the automata of a text tell. -/
import Derived.Test.YtmpcoclgcldclaaQH
namespace Go.Proofs.Ytmpcoclgcldclaa
open Go.RowKit

theorem symsB_cons {k x : Int} {u : List Int} (h : symsB k (x :: u) = true) : (0 ≤ x ∧ x < k) ∧ symsB k u = true :=
  ⟨symsB_iff.1 h x (by simp), symsB_iff.2 fun y hy => symsB_iff.1 h y (by simp [hy])⟩
/-- a state of a chain ahead of its last is come to by one word alone -/
theorem chain_at {k : Nat} {V : List Int} (hw : ∀ x ∈ V, 0 ≤ x ∧ x < k) {m : Nat} (hm : m < V.length) : ∀ (u : List Int) (i : Nat), i ≤ V.length → symsB k u = true →
    ((chainD k V true).run ((i + 1 : Nat) : Int) u = ((m + 1 : Nat) : Int) ↔ i ≤ m ∧ u = (V.drop i).take (m - i))
  | [], i, hi, _ => by
    show ((i + 1 : Nat) : Int) = ((m + 1 : Nat) : Int) ↔ _
    constructor
    · intro h
      have : i = m := by omega
      subst this
      exact ⟨Nat.le_refl _, by simp⟩
    · rintro ⟨h1, h2⟩
      have h3 := congrArg List.length h2
      rw [List.length_take, List.length_drop, List.length_nil] at h3
      omega
  | x :: u, i, hi, h => by
    obtain ⟨⟨h0, h1⟩, hu⟩ := symsB_cons h
    obtain ⟨x', rfl⟩ := Int.eq_ofNat_of_zero_le h0
    show (chainD k V true).run ((chainD k V true).step ((i + 1 : Nat) : Int) (x' : Int)) u = _ ↔ _
    rw [chainD_step hw (by omega) (by omega)]
    by_cases h2 : i = V.length
    · subst h2
      rw [if_pos rfl]
      have e : chTo V true = ((V.length + 1 : Nat) : Int) := by simp [chTo]
      rw [e, chain_at hw hm u V.length (Nat.le_refl _) hu]
      constructor
      · rintro ⟨h3, _⟩; omega
      · rintro ⟨h3, _⟩; omega
    · have hlt : i < V.length := by omega
      rw [if_neg (by omega), show i + 1 - 1 = i by omega]
      have hg : V[i]? = some V[i] := List.getElem?_eq_getElem hlt
      rw [hg]
      by_cases h3 : V[i] = (x' : Int)
      · rw [if_pos ⟨by omega, by rw [h3]⟩]
        have e : ((i + 1 : Nat) : Int) + 1 = ((i + 1 + 1 : Nat) : Int) := by omega
        rw [e, chain_at hw hm u (i + 1) (by omega) hu]
        constructor
        · rintro ⟨h4, h5⟩
          refine ⟨by omega, ?_⟩
          rw [List.drop_eq_getElem_cons hlt, show m - i = (m - (i + 1)) + 1 by omega, List.take_succ_cons, ← h5, h3]
        · rintro ⟨h4, h5⟩
          rw [List.drop_eq_getElem_cons hlt] at h5
          have h6 : m ≠ i := fun e => by subst e; simp at h5
          rw [show m - i = (m - (i + 1)) + 1 by omega, List.take_succ_cons] at h5
          injection h5 with _ h7
          exact ⟨by omega, h7⟩
      · rw [if_neg (fun h => h3 (Option.some.inj h.2)), chainD_out hw u hu]
        constructor
        · intro h4; omega
        · rintro ⟨h4, h5⟩
          rw [List.drop_eq_getElem_cons hlt] at h5
          have h6 : m ≠ i := fun e => by subst e; simp at h5
          rw [show m - i = (m - (i + 1)) + 1 by omega, List.take_succ_cons] at h5
          injection h5 with h7 _
          exact absurd h7.symm h3
theorem markD_run (d : D) (s : Int) : ∀ (u : List Int) (t : Int), (markD d s).run t u = d.run t u
  | [], _ => rfl
  | x :: u, t => markD_run d s u (d.step t x)
theorem markD_acc {d : D} {s t : Int} (hs : 0 ≤ s ∧ s < d.A.length) (ht : 0 ≤ t) : (markD d s).acc t = (d.acc t || decide (t = s)) := by
  show (d.A.set s.toNat true).getD t.toNat false = (d.A.getD t.toNat false || _)
  rw [List.getD_eq_getElem?_getD, List.getElem?_set]
  by_cases e : t = s
  · subst e
    rw [if_pos rfl, if_pos (by omega)]
    simp
  · rw [if_neg (by omega), List.getD_eq_getElem?_getD, decide_eq_false e, Bool.or_false]
theorem markD_ok {d : D} (s : Int) (h : d.Ok) : (markD d s).Ok := by
  have e : (markD d s).A.length = d.A.length := by unfold markD; simp
  unfold D.Ok
  rw [e]
  exact h
theorem markD_tells {k : Nat} {W : List Int} {z : Int} (hk1 : 1 ≤ k) (hk2 : k ≤ 512) (hl : W.length + 1 ≤ 60000) (hw : symsB k (W ++ [z]) = true) (u : List Int) :
    (markD (chainD k (W ++ [z]) true) ((chainD k (W ++ [z]) true).run (chainD k (W ++ [z]) true).S W)).tells u = (symsB k u && (beginsB u (W ++ [z]) || decide (u = W))) := by
  have hlen : (W ++ [z]).length = W.length + 1 := by simp
  have hok := chainD_ok (k := k) (ws := W ++ [z]) (st := true) hk1 hk2 (by omega)
  have hWs : symsB k W = true := by rw [symsB_snoc] at hw; simp only [Bool.and_eq_true] at hw; exact hw.1
  have hch := fun u hu => chain_at (symsB_iff.1 hw) (m := W.length) (by omega) u 0 (by omega) hu
  have hat : (chainD k (W ++ [z]) true).run (chainD k (W ++ [z]) true).S W = ((W.length + 1 : Nat) : Int) := (hch W hWs).2 ⟨by omega, by simp⟩
  have hT := fun u => chainD_tells (st := true) hk1 hk2 (show (W ++ [z]).length ≤ 60000 by omega) hw u
  rw [hat]
  unfold D.tells at hT ⊢
  rw [D.right_true.2 (markD_ok _ hok)]
  have hT' := hT u
  rw [D.right_true.2 hok] at hT'
  have hKK : (chainD k (W ++ [z]) true).K = (k : Int) := rfl
  have hKM : (markD (chainD k (W ++ [z]) true) ((W.length + 1 : Nat) : Int)).K = (k : Int) := rfl
  rw [hKK] at hT'
  rw [hKM]
  cases hu : symsB (k : Int) u
  · rfl
  · rw [hu] at hT'
    simp only [Bool.true_and, Bool.true_or, Bool.and_true] at hT' ⊢
    have hrun : (markD (chainD k (W ++ [z]) true) ((W.length + 1 : Nat) : Int)).run (markD (chainD k (W ++ [z]) true) ((W.length + 1 : Nat) : Int)).S u = (chainD k (W ++ [z]) true).run (chainD k (W ++ [z]) true).S u := markD_run _ _ u _
    rw [hrun, markD_acc ⟨by omega, by rw [chainD_len]; omega⟩ (hok.run_lt u ⟨hok.2.2.2.2.2.1, hok.2.2.2.2.2.2.1⟩ hu).1, hT']
    congr 1
    have h2 : ((chainD k (W ++ [z]) true).run (chainD k (W ++ [z]) true).S u = ((W.length + 1 : Nat) : Int) ↔ u = W) :=
      ⟨fun h => by have := ((hch u hu).1 h).2; simpa using this, fun h => (hch u hu).2 ⟨by omega, by rw [h]; simp⟩⟩
    by_cases e : u = W
    · rw [decide_eq_true e, decide_eq_true (h2.2 e)]
    · rw [decide_eq_false e, decide_eq_false (fun h => e (h2.1 h))]
theorem nilD_tells (u : List Int) : (nilD 92).tells u = false := by
  unfold D.tells
  have := noneD_tells_none 92 u
  have h2 : (nilD 92).acc ((nilD 92).run (nilD 92).S u) = false := this
  rw [h2]; simp
theorem bytW_take (u : List Int) (n : Nat) : (bytW u).take n = bytW (u.take n) := by unfold bytW; rw [List.map_take]
theorem bytW_len (u : List Int) : (bytW u).length = u.length := by simp [bytW]
theorem symW_len (u : List Int) : (symW u).length = u.length := by simp [symW]
theorem bytW_inj {u v : List Int} (hu : symsB 92 u = true) (hv : symsB 92 v = true) (h : bytW u = bytW v) : u = v := by
  rw [← (symW_bytW (symsB_iff.1 hu)).1, ← (symW_bytW (symsB_iff.1 hv)).1, h]
theorem symsB_takeN {k : Int} {u : List Int} (h : symsB k u = true) (n : Nat) : symsB k (u.take n) = true := symsB_iff.2 fun x hx => symsB_iff.1 h x (List.mem_of_mem_take hx)
theorem pathsB_take {u : List Int} (h : pathsB u = true) (n : Nat) : pathsB (u.take n) = true := pathsB_iff.2 fun x hx => pathsB_iff.1 h x (List.mem_of_mem_take hx)
theorem symW_syms {b : List Int} (h : pathsB b = true) : symsB 92 (symW b) = true := symsB_iff.2 (bytW_symW h).2
/-- a word begins with a text's word just if its bytes begin with the text -/
theorem begins_bytes {u b : List Int} (hu : symsB 92 u = true) (hb : pathsB b = true) : beginsB u (symW b) = decide ((bytW u).take b.length = b) := by
  unfold beginsB
  rw [symW_len]
  congr 1
  refine propext ⟨fun h => ?_, fun h => ?_⟩
  · rw [bytW_take, h]; exact (bytW_symW hb).1
  · have h2 : bytW (u.take b.length) = bytW (symW b) := by rw [← bytW_take, h, (bytW_symW hb).1]
    exact bytW_inj (symsB_takeN hu _) (symW_syms hb) h2
theorem head_13 {u : List Int} (hu : symsB 92 u = true) : u[0]? = some 13 ↔ (bytW u)[0]? = some 47 := by
  cases u with
  | nil => simp [bytW]
  | cons x u =>
    have hx := (symsB_cons hu).1
    show some x = some 13 ↔ some (bytI x) = some 47
    constructor
    · intro h; rw [Option.some.inj h]; rfl
    · intro h
      have h2 := Option.some.inj h
      have h3 := (bytI_path hx.1 hx.2).2
      rw [h2] at h3
      rw [← h3]; rfl
theorem begD_tells {s : ByteArray} (hs : s.size ≤ 60000) {u : List Int} (hu : symsB 92 u = true) : (begD s).tells u = decide ((bytW u).take (bs s).length = bs s) := by
  unfold begD
  by_cases hb : pathsB (bs s) = true
  · rw [if_pos hb, chainD_tells (k := 92) (by omega) (by omega) (by rw [symW_len, bs_len]; exact hs) (symW_syms hb), ← begins_bytes hu hb]
    have : ((92 : Nat) : Int) = 92 := rfl
    rw [this, hu]; simp
  · rw [if_neg hb, nilD_tells]
    symm
    refine decide_eq_false fun h => hb ?_
    rw [← h]
    exact pathsB_take (symW_bytW (symsB_iff.1 hu)).2 _
theorem take_first {p b : List Int} {x : Int} (h : p.take b.length = b) (hx : b[0]? = some x) : p[0]? = some x := by
  rw [← h] at hx
  cases p with
  | nil => simp at hx
  | cons y p =>
    cases b with
    | nil => simp at hx
    | cons z b => simpa using hx
/-- the sets are the paths -/
theorem matchD_tells {s : ByteArray} (hs : s.size ≤ 59999) {u : List Int} (hu : symsB 92 u = true) : (matchD s).tells u = (decide (u[0]? = some 13) && pathOf (bytW u) (bs s)) := by
  have hh := head_13 hu
  have hpb := (symW_bytW (symsB_iff.1 hu)).2
  rw [show decide (u[0]? = some 13) = decide ((bytW u)[0]? = some 47) by congr 1; exact propext hh]
  by_cases h0 : bs s = []
  · unfold matchD
    rw [if_pos h0, pathsD_is, chainD_tells (by omega) (by omega) (by simp) (by decide), h0]
    have : ((92 : Nat) : Int) = 92 := rfl
    rw [this, hu]
    have hb := begins_bytes (b := [47]) hu (by decide)
    have e : symW [47] = [13] := rfl
    rw [e] at hb
    rw [hb]
    unfold pathOf
    generalize bytW u = p
    cases p with
    | nil => rfl
    | cons y p =>
      by_cases hy : y = 47
      · subst hy; simp
      · simp [hy]
  · obtain ⟨c, b, hcb⟩ : ∃ c b, bs s = c :: b := by
      cases hb : bs s with
      | nil => exact absurd hb h0
      | cons c b => exact ⟨c, b, rfl⟩
    by_cases h1 : (bs s)[0]? = some 47
    · by_cases h2 : (bs s).getLast? = some 47
      · unfold matchD
        rw [if_neg h0, if_neg (fun h => h h1), if_pos h2, begD_tells (by omega) hu]
        unfold pathOf
        rw [h2]
        generalize bytW u = p at hpb
        generalize bs s = b at h1
        by_cases h3 : p.take b.length = b
        · have hle : b.length ≤ p.length := by
            have := congrArg List.length h3
            rw [List.length_take] at this
            omega
          rw [decide_eq_true h3, decide_eq_true (take_first h3 h1)]
          by_cases h4 : b.length < p.length
          · rw [decide_eq_true h4]; simp
          · have h5 : p = b := by rw [List.take_of_length_le (by omega)] at h3; exact h3
            rw [decide_eq_true h5]; rfl
        · have h5 : ¬ p = b := fun e => h3 (by rw [e]; simp)
          rw [decide_eq_false h3, decide_eq_false h5]; simp
      · unfold matchD
        rw [if_neg h0, if_neg (fun h => h h1), if_neg h2]
        by_cases hb : pathsB (bs s) = true
        · rw [if_pos hb]
          have hbs : bs (s ++ slashS) = bs s ++ [47] := by rw [bs_append, bs_slash]
          have hbp : pathsB (bs s ++ [47]) = true := by rw [pathsB_snoc, hb]; rfl
          have hd : begD (s ++ slashS) = chainD 92 (symW (bs s) ++ [13]) true := by
            unfold begD
            rw [hbs, if_pos hbp, symW_snoc]; rfl
          rw [hd, markD_tells (by omega) (by omega) (by rw [symW_len, bs_len]; omega) (by
            have h := symW_syms hbp
            rw [symW_snoc] at h; exact h)]
          have : ((92 : Nat) : Int) = 92 := rfl
          rw [this, hu]
          have hbb := begins_bytes hu hbp
          rw [symW_snoc] at hbb
          have e13 : symI 47 = 13 := rfl
          rw [e13] at hbb
          rw [hbb]
          have hW : decide (u = symW (bs s)) = decide (bytW u = bs s) := by
            congr 1
            refine propext ⟨fun h => by rw [h]; exact (bytW_symW hb).1, fun h => ?_⟩
            exact bytW_inj hu (symW_syms hb) (by rw [h, (bytW_symW hb).1])
          rw [hW]
          unfold pathOf
          rw [decide_eq_false h2]
          generalize bytW u = p at hpb
          generalize bs s = b at h1
          by_cases h5 : p = b
          · subst h5
            rw [decide_eq_true h1]; simp
          · rw [decide_eq_false h5]
            by_cases h6 : p.take (b ++ [47]).length = b ++ [47]
            · have hle : b.length + 1 ≤ p.length := by
                have := congrArg List.length h6
                rw [List.length_take] at this
                simp at this
                omega
              have h7 : p.take b.length = b := by
                have := congrArg (List.take b.length) h6
                rw [List.take_take] at this
                simpa using this
              have h8 : p[b.length]? = some 47 := by
                have : (p.take (b ++ [47]).length)[b.length]? = some 47 := by rw [h6]; simp
                rw [List.getElem?_take_of_lt (by simp)] at this
                exact this
              rw [decide_eq_true h6, decide_eq_true (take_first h7 h1), decide_eq_true h7, decide_eq_true h8, decide_eq_true (show b.length < p.length by omega)]; rfl
            · rw [decide_eq_false h6]
              by_cases h7 : b.length < p.length ∧ p.take b.length = b ∧ p[b.length]? = some 47
              · obtain ⟨a1, a2, a3⟩ := h7
                exact absurd (by
                  rw [List.length_append, List.length_singleton, take_snoc a3, a2]) h6
              · by_cases a1 : b.length < p.length
                · by_cases a2 : p.take b.length = b
                  · have a3 : ¬ p[b.length]? = some 47 := fun h => h7 ⟨a1, a2, h⟩
                    rw [decide_eq_false a3]; simp
                  · rw [decide_eq_false a2]; simp
                · rw [decide_eq_false a1]; simp
        · rw [if_neg hb]
          have hbs : bs (s ++ slashS) = bs s ++ [47] := by rw [bs_append, bs_slash]
          have hd : begD (s ++ slashS) = nilD 92 := by
            unfold begD
            rw [hbs, if_neg]
            rw [pathsB_snoc]
            simp only [Bool.and_eq_true, not_and]
            intro h; exact absurd h hb
          rw [hd, nilD_tells]
          symm
          unfold pathOf
          have h5 : ¬ bytW u = bs s := fun e => hb (by rw [← e]; exact hpb)
          have h6 : ¬ (bytW u).take (bs s).length = bs s := fun e => hb (by rw [← e]; exact pathsB_take hpb _)
          rw [decide_eq_false h5, decide_eq_false h6]; simp
    · unfold matchD
      rw [if_neg h0, if_pos h1, nilD_tells]
      symm
      by_cases h3 : (bytW u)[0]? = some 47
      · unfold pathOf
        have h5 : ¬ bytW u = bs s := fun e => h1 (by rw [← e]; exact h3)
        have h6 : ¬ (bytW u).take (bs s).length = bs s := fun e => h1 (by
          rw [hcb]
          rw [hcb] at e
          have := take_first (x := c) e rfl
          rw [h3] at this
          exact this.symm)
        rw [decide_eq_false h5, decide_eq_false h6]; simp
      · rw [decide_eq_false h3]; rfl
theorem matchD_ok {s : ByteArray} (hs : s.size ≤ 59999) : (matchD s).Ok ∧ (matchD s).K = 92 ∧ (matchD s).A.length ≤ s.size + 3 := by
  have hbeg : ∀ t : ByteArray, t.size ≤ 60000 → (begD t).Ok ∧ (begD t).K = 92 ∧ (begD t).A.length ≤ t.size + 2 := fun t ht => by
    refine ⟨begD_ok ht, begD_K t, ?_⟩
    unfold begD
    split
    · rw [chainD_len, symW_len, bs_len]; exact Nat.le_refl _
    · show 1 ≤ _; omega
  have hts : (s ++ slashS).size = s.size + 1 := by rw [← bs_len, bs_append, bs_slash, List.length_append, bs_len]; rfl
  unfold matchD
  split
  · exact ⟨chainD_ok (by omega) (by omega) (by simp), rfl, by show 3 ≤ _; omega⟩
  · split
    · refine ⟨?_, rfl, by show 1 ≤ _; omega⟩
      have : nilD 92 = begD (ByteArray.mk #[0]) := by unfold begD; rfl
      rw [this]
      exact begD_ok (by decide)
    · split
      · have := hbeg s (by omega)
        exact ⟨this.1, this.2.1, by have := this.2.2; omega⟩
      · split
        · have h := hbeg (s ++ slashS) (by omega)
          refine ⟨markD_ok _ h.1, h.2.1, ?_⟩
          have e : ∀ x, (markD (begD (s ++ slashS)) x).A.length = (begD (s ++ slashS)).A.length := fun x => by unfold markD; simp
          rw [e]
          have := h.2.2
          omega
        · have h := hbeg (s ++ slashS) (by omega)
          exact ⟨h.1, h.2.1, by have := h.2.2; omega⟩
end Go.Proofs.Ytmpcoclgcldclaa
