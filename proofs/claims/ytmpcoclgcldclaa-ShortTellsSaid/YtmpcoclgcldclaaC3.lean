/- Plain words of the document's answer for the cheapest word: cost by cost, the word that is ahead of all that come to a state. No program. -/
import Derived.Test.YtmpcoclgcldclaaC1
namespace Go.Proofs.Ytmpcoclgcldclaa
abbrev Row := List (Option (List Int))
def rowAt (row : Row) (s : Int) : Option (List Int) := row.getD s.toNat none
/-- the best of some words that come to a state -/
def PB (d : D) (C : List Int → Prop) (t : Int) : Option (List Int) → Prop
  | none => ∀ u, C u → d.run d.S u ≠ t
  | some W => C W ∧ d.run d.S W = t ∧ ∀ u, C u → d.run d.S u = t → u = W ∨ smB W u = true
def RowP (d : D) (C : List Int → Prop) (row : Row) : Prop := row.length = d.A.length ∧ ∀ t : Int, 0 ≤ t ∧ t < d.A.length → PB d C t (rowAt row t)
/-- all words of a cost -/
def CW (d : D) (cs : List Int) (c : Int) (u : List Int) : Prop := symsB d.K u = true ∧ costW cs u = c
/-- those whose last symbol, and the state ahead of it, have been gone through -/
def CP (d : D) (cs : List Int) (c : Int) (x s : Int) (u : List Int) : Prop := CW d cs c u ∧ ∃ v y, u = v ++ [y] ∧ (y < x ∨ y = x ∧ d.run d.S v < s)
theorem PB.congr {d : D} {C C' : List Int → Prop} {t : Int} {o : Option (List Int)} (h : PB d C t o) (hC : ∀ u, C u ↔ C' u) : PB d C' t o := by
  cases o with
  | none => exact fun u hu => h u ((hC u).2 hu)
  | some W => exact ⟨(hC W).1 h.1, h.2.1, fun u hu => h.2.2 u ((hC u).2 hu)⟩
theorem RowP.congr {d : D} {C C' : List Int → Prop} {row : Row} (h : RowP d C row) (hC : ∀ u, C u ↔ C' u) : RowP d C' row := ⟨h.1, fun t ht => (h.2 t ht).congr hC⟩
theorem rowAt_rep (n : Nat) (s : Int) : rowAt (List.replicate n none) s = none := by
  unfold rowAt
  rw [List.getD_eq_getElem?_getD, List.getElem?_replicate]
  split <;> rfl
theorem rowAt_same {row : Row} {s : Int} {o : Option (List Int)} (h : s.toNat < row.length) : rowAt (row.set s.toNat o) s = o := by
  unfold rowAt
  rw [List.getD_eq_getElem?_getD, List.getElem?_set_self h]; rfl
theorem rowAt_other {row : Row} {s t : Int} {o : Option (List Int)} (hs : 0 ≤ s) (ht : 0 ≤ t) (h : t ≠ s) : rowAt (row.set s.toNat o) t = rowAt row t := by
  unfold rowAt
  rw [List.getD_eq_getElem?_getD, List.getElem?_set_ne (by omega), List.getD_eq_getElem?_getD]
section
variable {d : D} {cs : List Int}
theorem symsB_app {k : Int} {v : List Int} {y : Int} (h : symsB k (v ++ [y]) = true) : symsB k v = true ∧ 0 ≤ y ∧ y < k := by
  rw [symsB_snoc, Bool.and_eq_true] at h
  exact ⟨h.1, of_decide_eq_true h.2⟩
theorem snoc_of_ne {u : List Int} (h : u ≠ []) : ∃ v y, u = v ++ [y] := ⟨u.dropLast, u.getLast h, (List.dropLast_concat_getLast h).symm⟩
/-- the row of no cost -/
theorem row_zero (hf : Fit d cs) : RowP d (CW d cs 0) ((List.replicate d.A.length none).set d.S.toNat (some [])) := by
  have hS : 0 ≤ d.S ∧ d.S < d.A.length := ⟨hf.ok.2.2.2.2.2.1, hf.ok.2.2.2.2.2.2.1⟩
  have hnil : ∀ u, CW d cs 0 u → u = [] := fun u hu => by
    have := hf.len_le u hu.1
    rw [hu.2] at this
    exact List.eq_nil_of_length_eq_zero (by omega)
  refine ⟨by simp, fun t ht => ?_⟩
  by_cases e : t = d.S
  · subst e
    rw [rowAt_same (by simp; omega)]
    exact ⟨⟨rfl, rfl⟩, rfl, fun u hu _ => .inl (hnil u hu)⟩
  · rw [rowAt_other hS.1 ht.1 e, rowAt_rep]
    intro u hu h
    rw [hnil u hu] at h
    exact e h.symm
theorem cp_zero (hf : Fit d cs) (x s : Int) : ∀ u, ¬ CP d cs 0 x s u := by
  rintro u ⟨⟨h1, h2⟩, v, y, rfl, _⟩
  have := hf.len_le _ h1
  rw [h2] at this
  simp at this
  omega
theorem symsB_last {k : Int} {v : List Int} {y : Int} (h1 : symsB k v = true) (h2 : 0 ≤ y ∧ y < k) : symsB k (v ++ [y]) = true := by
  rw [symsB_snoc, h1]; exact decide_eq_true h2
theorem run_range (hf : Fit d cs) {v : List Int} (h : symsB d.K v = true) : 0 ≤ d.run d.S v ∧ d.run d.S v < d.A.length :=
  hf.ok.run_lt v ⟨hf.ok.2.2.2.2.2.1, hf.ok.2.2.2.2.2.2.1⟩ h
/-- a new row: nothing has been gone through -/
theorem row_new (hf : Fit d cs) (c : Int) : RowP d (CP d cs c 0 0) (List.replicate d.A.length none) := by
  refine ⟨by simp, fun t ht => ?_⟩
  rw [rowAt_rep]
  rintro u ⟨⟨h1, _⟩, v, y, rfl, h⟩ hr
  have hv := symsB_app h1
  have := run_range hf hv.1
  omega
/-- a symbol that costs too much -/
theorem row_skip {row : Row} {c x : Int} (hf : Fit d cs) (h : RowP d (CP d cs c x 0) row) (hx : c < cst cs x) : RowP d (CP d cs c (x + 1) 0) row := by
  refine h.congr fun u => ?_
  unfold CP
  constructor
  · rintro ⟨h1, v, y, rfl, h2⟩
    have hv := symsB_app h1.1
    have := run_range hf hv.1
    exact ⟨h1, v, y, rfl, by omega⟩
  · rintro ⟨h1, v, y, rfl, h2⟩
    have hv := symsB_app h1.1
    have hr := run_range hf hv.1
    refine ⟨h1, v, y, rfl, ?_⟩
    rcases h2 with h2 | h2
    · by_cases e : y = x
      · subst e
        have hc := h1.2
        rw [costW_snoc] at hc
        have := hf.len_le v hv.1
        omega
      · omega
    · omega
/-- all states of a symbol -/
theorem row_next {row : Row} {c x : Int} (hf : Fit d cs) (h : RowP d (CP d cs c x d.A.length) row) : RowP d (CP d cs c (x + 1) 0) row := by
  refine h.congr fun u => ?_
  unfold CP
  constructor
  · rintro ⟨h1, v, y, rfl, h2⟩
    exact ⟨h1, v, y, rfl, by omega⟩
  · rintro ⟨h1, v, y, rfl, h2⟩
    have hv := symsB_app h1.1
    have hr := run_range hf hv.1
    exact ⟨h1, v, y, rfl, by omega⟩
/-- a state to which no word comes -/
theorem row_none {row prev : Row} {c x s : Int} (h : RowP d (CP d cs c x s) row) (hp : RowP d (CW d cs (c - cst cs x)) prev) (hs : 0 ≤ s ∧ s < d.A.length) (hn : rowAt prev s = none) : RowP d (CP d cs c x (s + 1)) row := by
  refine h.congr fun u => ?_
  unfold CP
  constructor
  · rintro ⟨h1, v, y, rfl, h2⟩
    exact ⟨h1, v, y, rfl, by omega⟩
  · rintro ⟨h1, v, y, rfl, h2⟩
    refine ⟨h1, v, y, rfl, ?_⟩
    have hps := hp.2 s hs
    rw [hn] at hps
    rcases h2 with h2 | ⟨h2, h3⟩
    · exact .inl h2
    · refine .inr ⟨h2, ?_⟩
      subst h2
      have hc := h1.2
      rw [costW_snoc] at hc
      have := hps v ⟨(symsB_app h1.1).1, by omega⟩
      omega
/-- a state to which a word comes: one that is ahead is put down -/
def putRow (row : Row) (t : Int) (w : List Int) : Row :=
  match rowAt row t with
  | none => row.set t.toNat (some w)
  | some old => if smB w old then row.set t.toNat (some w) else row
theorem row_some {row prev : Row} {c x s : Int} {W : List Int} (hf : Fit d cs) (h : RowP d (CP d cs c x s) row) (hp : RowP d (CW d cs (c - cst cs x)) prev) (hs : 0 ≤ s ∧ s < d.A.length) (hx : 0 ≤ x ∧ x < d.K) (hW : rowAt prev s = some W) :
    RowP d (CP d cs c x (s + 1)) (putRow row (d.step s x) (W ++ [x])) := by
  have hps := hp.2 s hs
  rw [hW] at hps
  obtain ⟨⟨w1, w2⟩, w3, w4⟩ := hps
  have ht := hf.ok.step_lt hs hx
  have hrun : d.run d.S (W ++ [x]) = d.step s x := by rw [D.run_snoc, w3]
  have hcw : CW d cs c (W ++ [x]) := ⟨symsB_last w1 hx, by rw [costW_snoc, w2]; omega⟩
  have hnewC : CP d cs c x (s + 1) (W ++ [x]) := ⟨hcw, W, x, rfl, .inr ⟨rfl, by omega⟩⟩
  have hmono : ∀ u, CP d cs c x s u → CP d cs c x (s + 1) u := by
    rintro u ⟨h1, v, y, rfl, h2⟩
    exact ⟨h1, v, y, rfl, by omega⟩
  -- what is new comes to the one state, and is not ahead of the new word
  have hnew : ∀ u, CP d cs c x (s + 1) u → ¬ CP d cs c x s u → d.run d.S u = d.step s x ∧ (u = W ++ [x] ∨ smB (W ++ [x]) u = true) := by
    rintro u ⟨h1, v, y, rfl, h2⟩ hno
    have hv := symsB_app h1.1
    have e : y = x ∧ d.run d.S v = s := by
      rcases h2 with h2 | ⟨h2, h3⟩
      · exact absurd ⟨h1, v, y, rfl, .inl h2⟩ hno
      · refine ⟨h2, ?_⟩
        by_cases hlt : d.run d.S v < s
        · exact absurd ⟨h1, v, y, rfl, .inr ⟨h2, hlt⟩⟩ hno
        · omega
    obtain ⟨rfl, e2⟩ := e
    have hc := h1.2
    rw [costW_snoc] at hc
    refine ⟨by rw [D.run_snoc, e2], ?_⟩
    rcases w4 v ⟨hv.1, by omega⟩ e2 with rfl | h4
    · exact .inl rfl
    · exact .inr (smB_append h4 [y] [y])
  have hset : ∀ (row' : Row), row' = row.set (d.step s x).toNat (some (W ++ [x])) → (∀ u, CP d cs c x s u → d.run d.S u = d.step s x → smB (W ++ [x]) u = true) → RowP d (CP d cs c x (s + 1)) row' := by
    rintro row' rfl hall
    have hlen : (d.step s x).toNat < row.length := by rw [h.1]; omega
    refine ⟨by rw [List.length_set]; exact h.1, fun t htr => ?_⟩
    by_cases e : t = d.step s x
    · subst e
      rw [rowAt_same hlen]
      refine ⟨hnewC, hrun, fun u hu hr => ?_⟩
      by_cases ho : CP d cs c x s u
      · exact .inr (hall u ho hr)
      · exact (hnew u hu ho).2
    · rw [rowAt_other ht.1 htr.1 e]
      have hb := h.2 t htr
      cases ho : rowAt row t with
      | none =>
        rw [ho] at hb
        intro u hu hr
        by_cases hc : CP d cs c x s u
        · exact hb u hc hr
        · exact e (hr.symm.trans (hnew u hu hc).1)
      | some W0 =>
        rw [ho] at hb
        refine ⟨hmono _ hb.1, hb.2.1, fun u hu hr => ?_⟩
        by_cases hc : CP d cs c x s u
        · exact hb.2.2 u hc hr
        · exact absurd (hr.symm.trans (hnew u hu hc).1) e
  unfold putRow
  have hb := h.2 _ ht
  cases ho : rowAt row (d.step s x) with
  | none =>
    rw [ho] at hb
    exact hset _ rfl fun u hu hr => absurd hr (hb u hu)
  | some old =>
    rw [ho] at hb
    by_cases hsm : smB (W ++ [x]) old = true
    · simp only [hsm, if_true]
      refine hset _ rfl fun u hu hr => ?_
      rcases hb.2.2 u hu hr with rfl | h1
      · exact hsm
      · exact smB_trans _ _ _ hsm h1
    · simp only [hsm]
      have hold : old = W ++ [x] ∨ smB old (W ++ [x]) = true := by
        rcases hf.tri old (W ++ [x]) hb.1.1.1 hcw.1 (hb.1.1.2.trans hcw.2.symm) with h1 | h1 | h1
        · exact .inl h1
        · exact .inr h1
        · exact absurd h1 hsm
      refine ⟨h.1, fun t htr => ?_⟩
      have hbt := h.2 t htr
      by_cases e : t = d.step s x
      · subst e
        simp only [Bool.false_eq_true, if_false]
        rw [ho]
        refine ⟨hmono _ hb.1, hb.2.1, fun u hu hr => ?_⟩
        by_cases hc : CP d cs c x s u
        · exact hb.2.2 u hc hr
        · rcases (hnew u hu hc).2 with rfl | h1
          · rcases hold with h2 | h2
            · exact .inl h2.symm
            · exact .inr h2
          · rcases hold with h2 | h2
            · rw [h2]; exact .inr h1
            · exact .inr (smB_trans _ _ _ h2 h1)
      · simp only [Bool.false_eq_true, if_false]
        cases ho' : rowAt row t with
        | none =>
          rw [ho'] at hbt
          intro u hu hr
          by_cases hc : CP d cs c x s u
          · exact hbt u hc hr
          · exact e (hr.symm.trans (hnew u hu hc).1)
        | some W0 =>
          rw [ho'] at hbt
          refine ⟨hmono _ hbt.1, hbt.2.1, fun u hu hr => ?_⟩
          by_cases hc : CP d cs c x s u
          · exact hbt.2.2 u hc hr
          · exact absurd (hr.symm.trans (hnew u hu hc).1) e
/-- all symbols -/
theorem row_done {row : Row} {c : Int} (hc : 1 ≤ c) (h : RowP d (CP d cs c d.K 0) row) : RowP d (CW d cs c) row := by
  refine h.congr fun u => ?_
  unfold CP
  constructor
  · rintro ⟨h1, _⟩; exact h1
  · intro h1
    have hne : u ≠ [] := fun e => by
      subst e
      have := h1.2
      simp only [costW] at this
      omega
    obtain ⟨v, y, rfl⟩ := snoc_of_ne hne
    exact ⟨h1, v, y, rfl, .inl (symsB_app h1.1).2.2⟩
/-- the best of the accepting states that have been gone through -/
def BestTo (d : D) (row : Row) (s : Int) : Option (List Int) → Prop
  | none => ∀ t : Int, 0 ≤ t ∧ t < s → d.acc t = true → rowAt row t = none
  | some W => (∃ t : Int, (0 ≤ t ∧ t < s) ∧ d.acc t = true ∧ rowAt row t = some W) ∧ ∀ (t : Int) (V : List Int), 0 ≤ t ∧ t < s → d.acc t = true → rowAt row t = some V → V = W ∨ smB W V = true
theorem bestTo_start (row : Row) : BestTo d row 0 none := fun t ht => by omega
theorem bestTo_pass {row : Row} {s : Int} {o : Option (List Int)} (h : BestTo d row s o) (hn : d.acc s = true → rowAt row s = none) : BestTo d row (s + 1) o := by
  cases o with
  | none =>
    intro t ht ha
    by_cases e : t = s
    · subst e; exact hn ha
    · exact h t (by omega) ha
  | some W =>
    obtain ⟨⟨t, ht, h1⟩, h2⟩ := h
    refine ⟨⟨t, by omega, h1⟩, fun t V ht ha hV => ?_⟩
    by_cases e : t = s
    · subst e; rw [hn ha] at hV; cases hV
    · exact h2 t V (by omega) ha hV
theorem bestTo_new {row : Row} {s : Int} {o : Option (List Int)} {V : List Int} (h : BestTo d row s o) (hs : 0 ≤ s) (ha : d.acc s = true) (hV : rowAt row s = some V) (hb : ∀ W, o = some W → smB V W = true) : BestTo d row (s + 1) (some V) := by
  refine ⟨⟨s, by omega, ha, hV⟩, fun t U ht hat hU => ?_⟩
  by_cases e : t = s
  · subst e; rw [hV] at hU; exact .inl (Option.some.inj hU).symm
  · cases o with
    | none => rw [h t (by omega) hat] at hU; cases hU
    | some W =>
      have hv := hb W rfl
      rcases h.2 t U (by omega) hat hU with rfl | h1
      · exact .inr hv
      · exact .inr (smB_trans _ _ _ hv h1)
theorem bestTo_keep {row : Row} {s c : Int} {W V : List Int} (hf : Fit d cs) (hr : RowP d (CW d cs c) row) (h : BestTo d row s (some W)) (hs : 0 ≤ s ∧ s < d.A.length) (hV : rowAt row s = some V) (hb : smB V W = false) : BestTo d row (s + 1) (some W) := by
  obtain ⟨⟨t, ht, h1, h1'⟩, h2⟩ := h
  have p1 := hr.2 t (by omega)
  rw [h1'] at p1
  have p2 := hr.2 s hs
  rw [hV] at p2
  refine ⟨⟨t, by omega, h1, h1'⟩, fun t U ht hat hU => ?_⟩
  by_cases e : t = s
  · subst e
    rw [hV] at hU
    rw [← Option.some.inj hU]
    rcases hf.tri V W p2.1.1 p1.1.1 (p2.1.2.trans p1.1.2.symm) with h3 | h3 | h3
    · exact .inl h3
    · rw [hb] at h3; cases h3
    · exact .inr h3
  · exact h2 t U (by omega) hat hU
/-- no word that costs less is told -/
def NoneBelow (d : D) (cs : List Int) (c : Int) : Prop := ∀ u, Told d d.S u → c ≤ costW cs u
theorem none_start (hf : Fit d cs) : NoneBelow d cs 0 := fun u hu => by have := hf.len_le u hu.1; omega
theorem none_next {row : Row} {c : Int} (hf : Fit d cs) (hr : RowP d (CW d cs c) row) (h : NoneBelow d cs c) (hb : BestTo d row d.A.length none) : NoneBelow d cs (c + 1) := by
  intro u hu
  have h1 := h u hu
  by_cases e : costW cs u = c
  · have hrange := run_range hf hu.1
    have p := hr.2 _ hrange
    rw [hb _ hrange hu.2] at p
    exact absurd rfl (p u ⟨hu.1, e⟩)
  · omega
theorem best_found {row : Row} {c : Int} {W : List Int} (hf : Fit d cs) (hr : RowP d (CW d cs c) row) (h : NoneBelow d cs c) (hb : BestTo d row d.A.length (some W)) : BestOf d cs W ∧ costW cs W = c := by
  obtain ⟨⟨t, ht, h1, h1'⟩, h2⟩ := hb
  have p := hr.2 t ht
  rw [h1'] at p
  obtain ⟨⟨q1, q2⟩, q3, q4⟩ := p
  refine ⟨⟨⟨q1, by rw [q3]; exact h1⟩, fun u hu => by rw [q2]; exact h u hu, fun u hu e => ?_⟩, q2⟩
  rw [q2] at e
  have hrange := run_range hf hu.1
  have p := hr.2 _ hrange
  cases ho : rowAt row (d.run d.S u) with
  | none => rw [ho] at p; exact absurd rfl (p u ⟨hu.1, e⟩)
  | some V =>
    rw [ho] at p
    have h3 := h2 _ V hrange hu.2 ho
    rcases p.2.2 u ⟨hu.1, e⟩ rfl with rfl | h4
    · exact h3
    · rcases h3 with rfl | h3
      · exact .inr h4
      · exact .inr (smB_trans _ _ _ h3 h4)
end
end Go.Proofs.Ytmpcoclgcldclaa
