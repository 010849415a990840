/- Plain words of costs and of cheapest words: no program. -/
import Derived.Test.YtmpcoclgcldclaaP3
namespace Go.Proofs.Ytmpcoclgcldclaa
def mxI : Int := 9223372036854775807
def costOk (c : Int) : Bool := decide (1 ≤ c ∧ c ≤ 1048576)
def fineB (cs : List Int) : Bool := cs.all costOk
def cst (cs : List Int) (x : Int) : Int := cs.getD x.toNat 0
def costW (cs : List Int) : List Int → Int
  | [] => 0
  | x :: u => cst cs x + costW cs u
theorem costW_append (cs : List Int) : ∀ (u v : List Int), costW cs (u ++ v) = costW cs u + costW cs v
  | [], v => by simp [costW]
  | x :: u, v => by simp only [List.cons_append, costW, costW_append cs u v]; omega
theorem costW_snoc (cs : List Int) (u : List Int) (x : Int) : costW cs (u ++ [x]) = costW cs u + cst cs x := by
  rw [costW_append]; simp [costW]
/-- what a word costs; -1: it has no cost -/
def costB (cs w : List Int) : Int := if fineB cs && symsB cs.length w then costW cs w else -1
/-- has a word the lesser symbol, where they are unlike at first? -/
def smB : List Int → List Int → Bool
  | x :: a, y :: b => if x = y then smB a b else decide (x < y)
  | _, _ => false
theorem smB_irr : ∀ (a : List Int), smB a a = false
  | [] => rfl
  | x :: a => by simp [smB, smB_irr a]
theorem smB_asymm : ∀ (a b : List Int), smB a b = true → smB b a = false
  | [], [], _ => rfl
  | [], y :: b, h => by simp [smB] at h
  | x :: a, [], h => by simp [smB] at h
  | x :: a, y :: b, h => by
    unfold smB at h ⊢
    by_cases e : x = y
    · subst e; simp only [if_true] at h ⊢; exact smB_asymm a b h
    · rw [if_neg e] at h
      rw [if_neg (fun e2 => e e2.symm)]
      have := of_decide_eq_true h
      exact decide_eq_false (by omega)
theorem smB_trans : ∀ (a b c : List Int), smB a b = true → smB b c = true → smB a c = true
  | [], _, _, h, _ => by simp [smB] at h
  | x :: a, [], _, h, _ => by simp [smB] at h
  | x :: a, y :: b, [], _, h => by simp [smB] at h
  | x :: a, y :: b, z :: c, h1, h2 => by
    unfold smB at h1 h2 ⊢
    by_cases e1 : x = y
    · subst e1
      simp only [if_true] at h1
      by_cases e2 : x = z
      · subst e2; simp only [if_true] at h2 ⊢; exact smB_trans a b c h1 h2
      · rw [if_neg e2] at h2 ⊢; exact h2
    · rw [if_neg e1] at h1
      have h1' := of_decide_eq_true h1
      by_cases e2 : y = z
      · subst e2; rw [if_neg e1]; exact h1
      · rw [if_neg e2] at h2
        have h2' := of_decide_eq_true h2
        rw [if_neg (by omega)]
        exact decide_eq_true (by omega)
theorem smB_append {a b : List Int} (h : smB a b = true) (u v : List Int) : smB (a ++ u) (b ++ v) = true := by
  induction a generalizing b with
  | nil => simp [smB] at h
  | cons x a ih =>
    cases b with
    | nil => simp [smB] at h
    | cons y b =>
      simp only [List.cons_append]
      unfold smB at h ⊢
      by_cases e : x = y
      · subst e; simp only [if_true] at h ⊢; exact ih h
      · rw [if_neg e] at h ⊢; exact h
theorem smB_same (w : List Int) {a b : List Int} (h : smB a b = true) : smB (w ++ a) (w ++ b) = true := by
  induction w with
  | nil => exact h
  | cons x w ih => simp only [List.cons_append]; unfold smB; rw [if_pos rfl]; exact ih
/-- the costs of a right automaton -/
structure Fit (d : D) (cs : List Int) : Prop where
  ok : d.Ok
  len : (cs.length : Int) = d.K
  fine : fineB cs = true
theorem Fit.cst {d : D} {cs : List Int} (h : Fit d cs) {x : Int} (hx : 0 ≤ x ∧ x < d.K) : 1 ≤ cst cs x ∧ cst cs x ≤ 1048576 := by
  have hl := h.len
  have hlt : x.toNat < cs.length := by omega
  unfold Ytmpcoclgcldclaa.cst
  rw [List.getD_eq_getElem?_getD, List.getElem?_eq_getElem hlt, Option.getD_some]
  have := List.all_eq_true.1 h.fine _ (List.getElem_mem hlt)
  exact of_decide_eq_true this
theorem Fit.len_le {d : D} {cs : List Int} (h : Fit d cs) : ∀ (u : List Int), symsB d.K u = true → (u.length : Int) ≤ costW cs u
  | [], _ => by simp [costW]
  | x :: u, hu => by
    have hu' := symsB_iff.1 hu
    have h1 := (h.cst (hu' x (by simp))).1
    have h2 := Fit.len_le h u (symsB_iff.2 fun y hy => hu' y (by simp [hy]))
    simp only [costW, List.length_cons]
    omega
/-- of two words of one cost that are unlike, one is the smaller -/
theorem Fit.tri {d : D} {cs : List Int} (h : Fit d cs) : ∀ (u v : List Int), symsB d.K u = true → symsB d.K v = true → costW cs u = costW cs v → u = v ∨ smB u v = true ∨ smB v u = true
  | [], [], _, _, _ => .inl rfl
  | [], y :: v, _, hv, e => by
    have := h.len_le _ hv
    simp only [costW, List.length_cons] at e this
    omega
  | x :: u, [], hu, _, e => by
    have := h.len_le _ hu
    simp only [costW, List.length_cons] at e this
    omega
  | x :: u, y :: v, hu, hv, e => by
    have hu' := symsB_iff.1 hu
    have hv' := symsB_iff.1 hv
    by_cases exy : x = y
    · subst exy
      simp only [costW] at e
      rcases Fit.tri h u v (symsB_iff.2 fun z hz => hu' z (by simp [hz])) (symsB_iff.2 fun z hz => hv' z (by simp [hz])) (by omega) with h1 | h1 | h1
      · exact .inl (by rw [h1])
      · exact .inr (.inl (by unfold smB; rw [if_pos rfl]; exact h1))
      · exact .inr (.inr (by unfold smB; rw [if_pos rfl]; exact h1))
    · rcases Int.lt_or_gt_of_ne exy with h1 | h1
      · exact .inr (.inl (by unfold smB; rw [if_neg exy]; exact decide_eq_true h1))
      · exact .inr (.inr (by unfold smB; rw [if_neg (fun e => exy e.symm)]; exact decide_eq_true h1))
/-- a word is told from a state on -/
def Told (d : D) (s : Int) (u : List Int) : Prop := symsB d.K u = true ∧ d.acc (d.run s u) = true
theorem Told.cons {d : D} {s x : Int} {u : List Int} : Told d s (x :: u) ↔ (0 ≤ x ∧ x < d.K) ∧ Told d (d.step s x) u := by
  unfold Told
  constructor
  · rintro ⟨h1, h2⟩
    have h := symsB_iff.1 h1
    exact ⟨h x (by simp), symsB_iff.2 fun y hy => h y (by simp [hy]), h2⟩
  · rintro ⟨h1, h2, h3⟩
    refine ⟨symsB_iff.2 fun y hy => ?_, h3⟩
    rcases List.mem_cons.1 hy with rfl | hy
    · exact h1
    · exact symsB_iff.1 h2 y hy
theorem told_tells {d : D} {u : List Int} (h : d.Ok) : Told d d.S u ↔ d.tells u = true := by
  unfold Told D.tells
  rw [D.right_true.2 h]
  simp
/-- the cheapest word, ahead of all that cost as much -/
structure BestOf (d : D) (cs W : List Int) : Prop where
  told : Told d d.S W
  least : ∀ u, Told d d.S u → costW cs W ≤ costW cs u
  ahead : ∀ u, Told d d.S u → costW cs u = costW cs W → u = W ∨ smB W u = true
/-- what is told of the cheapest word with a bound -/
def LeastP (d : D) (cs : List Int) (most : Int) : Option (List Int) → Prop
  | none => ∀ u, Told d d.S u → most < costW cs u
  | some W => BestOf d cs W ∧ costW cs W ≤ most
theorem BestOf.uniq {d : D} {cs W W' : List Int} (h : BestOf d cs W) (h' : BestOf d cs W') : W = W' := by
  have e : costW cs W = costW cs W' := Int.le_antisymm (h.least _ h'.told) (h'.least _ h.told)
  rcases h.ahead _ h'.told e.symm with h1 | h1
  · exact h1.symm
  rcases h'.ahead _ h.told e with h2 | h2
  · exact h2
  · rw [smB_asymm _ _ h1] at h2; cases h2
theorem LeastP.uniq {d : D} {cs : List Int} {most : Int} : ∀ {o o' : Option (List Int)}, LeastP d cs most o → LeastP d cs most o' → o = o'
  | none, none, _, _ => rfl
  | none, some W, h, h' => by have := h _ h'.1.told; have := h'.2; omega
  | some W, none, h, h' => by have := h' _ h.1.told; have := h.2; omega
  | some W, some W', h, h' => by rw [h.1.uniq h'.1]
/-- .. where the bound is another one -/
theorem LeastP.more {d : D} {cs W : List Int} {most most' : Int} (h : LeastP d cs most (some W)) (h' : costW cs W ≤ most') : LeastP d cs most' (some W) := ⟨h.1, h'⟩
/-- what it costs from each state on -/
def lf (out : List Int) (s : Int) : Int := out.getD s.toNat mxI
structure LeftOk (d : D) (cs out : List Int) : Prop where
  len : out.length = d.A.length
  sound : ∀ s : Int, 0 ≤ s ∧ s < d.A.length → lf out s ≠ mxI → ∃ u, Told d s u ∧ costW cs u = lf out s
  all : ∀ (u : List Int) (s : Int), 0 ≤ s ∧ s < d.A.length → Told d s u → lf out s ≠ mxI ∧ lf out s ≤ costW cs u
theorem LeftOk.nonneg {d : D} {cs out : List Int} (h : LeftOk d cs out) (hf : Fit d cs) {s : Int} (hs : 0 ≤ s ∧ s < d.A.length) (hm : lf out s ≠ mxI) : 0 ≤ lf out s := by
  obtain ⟨u, hu, e⟩ := h.sound s hs hm
  have := hf.len_le u hu.1
  omega
/-- may one go on by a symbol? -/
def goodX (d : D) (cs out : List Int) (s x : Int) : Prop := lf out (d.step s x) ≠ mxI ∧ lf out (d.step s x) + cst cs x = lf out s
theorem LeftOk.good {d : D} {cs out : List Int} (h : LeftOk d cs out) (hf : Fit d cs) {s x : Int} {u : List Int} (hs : 0 ≤ s ∧ s < d.A.length) (hu : Told d s (x :: u)) (e : costW cs (x :: u) = lf out s) :
    goodX d cs out s x ∧ costW cs u = lf out (d.step s x) := by
  obtain ⟨hx, hu'⟩ := Told.cons.1 hu
  have ht := hf.ok.step_lt hs hx
  obtain ⟨h1, h2⟩ := h.all u _ ht hu'
  obtain ⟨v, hv, ev⟩ := h.sound _ ht h1
  obtain ⟨_, h3⟩ := h.all (x :: v) s hs (Told.cons.2 ⟨hx, hv⟩)
  simp only [costW] at e h3
  have : costW cs u = lf out (d.step s x) := by omega
  exact ⟨⟨h1, by omega⟩, this⟩
theorem LeftOk.zero {d : D} {cs out : List Int} (h : LeftOk d cs out) (hf : Fit d cs) {s : Int} (hs : 0 ≤ s ∧ s < d.A.length) (e : lf out s = 0) : d.acc s = true := by
  obtain ⟨u, hu, eu⟩ := h.sound s hs (by rw [e]; decide)
  have := hf.len_le u hu.1
  have hn : u = [] := List.eq_nil_of_length_eq_zero (by omega)
  subst hn
  exact hu.2
/-- the cheapest word, in the midst -/
structure Path (d : D) (cs out W : List Int) (s : Int) (vis : List Int) : Prop where
  syms : symsB d.K W = true
  at_ : s = d.run d.S W
  fin : lf out s ≠ mxI
  cost : costW cs W + lf out s = lf out d.S
  ahead : ∀ u, Told d d.S u → costW cs u = lf out d.S → (∃ v, u = W ++ v) ∨ smB W u = true
  vlen : vis.length = W.length
  vnodup : vis.Nodup
  vis : ∀ t ∈ vis, (0 ≤ t ∧ t < d.A.length) ∧ lf out s < lf out t
theorem Path.start {d : D} {cs out : List Int} (hm : lf out d.S ≠ mxI) : Path d cs out [] d.S [] :=
  ⟨rfl, rfl, hm, by simp [costW], fun u _ _ => .inl ⟨u, rfl⟩, rfl, by simp, by simp⟩
theorem Path.lt {d : D} {cs out W vis : List Int} {s : Int} (h : Path d cs out W s vis) (hf : Fit d cs) : 0 ≤ s ∧ s < d.A.length := by
  rw [h.at_]
  exact hf.ok.run_lt W ⟨hf.ok.2.2.2.2.2.1, hf.ok.2.2.2.2.2.2.1⟩ h.syms
theorem Told.app {d : D} : ∀ {u v : List Int} {s : Int}, Told d s (u ++ v) → Told d (d.run s u) v
  | [], _, _, h => h
  | x :: _, _, s, h => Told.app (s := d.step s x) (Told.cons.1 h).2
theorem Path.exists_ {d : D} {cs out W vis : List Int} {s : Int} (h : Path d cs out W s vis) (hl : LeftOk d cs out) (hf : Fit d cs) (hpos : 0 < lf out s) : ∃ x, (0 ≤ x ∧ x < d.K) ∧ goodX d cs out s x := by
  obtain ⟨u, hu, e⟩ := hl.sound s (h.lt hf) h.fin
  cases u with
  | nil => simp only [costW] at e; omega
  | cons x u => exact ⟨x, (Told.cons.1 hu).1, (hl.good hf (h.lt hf) hu e).1⟩
theorem Path.step {d : D} {cs out W vis : List Int} {s x : Int} (h : Path d cs out W s vis) (hl : LeftOk d cs out) (hf : Fit d cs) (hpos : 0 < lf out s) (hx : 0 ≤ x ∧ x < d.K) (hg : goodX d cs out s x)
    (hno : ∀ y, 0 ≤ y ∧ y < x → ¬ goodX d cs out s y) : Path d cs out (W ++ [x]) (d.step s x) (vis ++ [s]) := by
  have hs := h.lt hf
  have hc := hf.cst hx
  refine ⟨by rw [symsB_snoc, h.syms]; exact decide_eq_true hx, by rw [D.run_snoc, ← h.at_], hg.1, by rw [costW_snoc]; have := h.cost; have := hg.2; omega, ?_, by simp [h.vlen], ?_, ?_⟩
  · intro u hu e
    rcases h.ahead u hu e with ⟨v, rfl⟩ | h1
    · have hv := hu.app
      rw [← h.at_] at hv
      have ev : costW cs v = lf out s := by have := h.cost; rw [costW_append] at e; omega
      cases v with
      | nil => simp only [costW] at ev; omega
      | cons y v =>
        have hgy := (hl.good hf hs hv ev).1
        have hy := (Told.cons.1 hv).1
        by_cases e2 : x = y
        · subst e2
          exact .inl ⟨v, by simp⟩
        · have hlt : x < y := by
            rcases Int.lt_or_gt_of_ne e2 with h2 | h2
            · exact h2
            · exact absurd hgy (hno y ⟨hy.1, h2⟩)
          refine .inr (smB_same W ?_)
          unfold smB
          rw [if_neg e2]
          exact decide_eq_true hlt
    · right
      have := smB_append h1 [x] []
      simpa using this
  · rw [List.nodup_append]
    refine ⟨h.vnodup, by simp, fun a ha b hb e => ?_⟩
    rw [List.mem_singleton.1 hb] at e
    subst e
    have := (h.vis _ ha).2
    omega
  · intro t ht
    have := hg.2
    rcases List.mem_append.1 ht with ht | ht
    · have h2 := h.vis t ht
      exact ⟨h2.1, by omega⟩
    · rw [List.mem_singleton.1 ht]
      exact ⟨hs, by omega⟩
theorem Path.best {d : D} {cs out W vis : List Int} {s : Int} (h : Path d cs out W s vis) (hl : LeftOk d cs out) (hf : Fit d cs) (h0 : lf out s = 0) : BestOf d cs W ∧ costW cs W = lf out d.S ∧ W.length < d.A.length := by
  have hc := h.cost
  have hS : 0 ≤ d.S ∧ d.S < d.A.length := ⟨hf.ok.2.2.2.2.2.1, hf.ok.2.2.2.2.2.2.1⟩
  refine ⟨⟨⟨h.syms, ?_⟩, ?_, ?_⟩, by omega, ?_⟩
  · rw [← h.at_]
    exact hl.zero hf (h.lt hf) h0
  · intro u hu
    have := (hl.all u d.S hS hu).2
    omega
  · intro u hu e
    rcases h.ahead u hu (by omega) with ⟨v, rfl⟩ | h1
    · left
      rw [costW_append] at e
      have hv := hu.app
      have := hf.len_le v hv.1
      rw [List.eq_nil_of_length_eq_zero (show v.length = 0 by omega), List.append_nil]
    · exact .inr h1
  · have hs := h.lt hf
    have h1 : ((vis ++ [s]).map Int.toNat).length ≤ d.A.length := nodup_lt _ _ (by
      rw [List.Nodup, List.pairwise_map]
      have hnd : (vis ++ [s]).Nodup := by
        rw [List.nodup_append]
        refine ⟨h.vnodup, by simp, fun a ha b hb e => ?_⟩
        rw [List.mem_singleton.1 hb] at e
        subst e
        have := (h.vis _ ha).2
        omega
      have hr : ∀ t ∈ vis ++ [s], 0 ≤ t ∧ t < d.A.length := by
        intro t ht
        rcases List.mem_append.1 ht with ht | ht
        · exact (h.vis t ht).1
        · rw [List.mem_singleton.1 ht]; exact hs
      refine hnd.imp_of_mem ?_
      intro a b ha hb hne e
      have := hr a ha
      have := hr b hb
      exact hne (by omega)) (fun y hy => by
      obtain ⟨t, ht, rfl⟩ := List.mem_map.1 hy
      rcases List.mem_append.1 ht with ht | ht
      · have := (h.vis t ht).1; omega
      · rw [List.mem_singleton.1 ht]; omega)
    rw [List.length_map, List.length_append, h.vlen] at h1
    simp at h1
    omega
theorem LeftOk.leastNone {d : D} {cs out : List Int} {most : Int} (hl : LeftOk d cs out) (hf : Fit d cs) (h : most < lf out d.S ∨ lf out d.S = mxI) : LeastP d cs most none := by
  intro u hu
  have := hl.all u d.S ⟨hf.ok.2.2.2.2.2.1, hf.ok.2.2.2.2.2.2.1⟩ hu
  rcases h with h | h
  · omega
  · exact absurd h this.1
end Go.Proofs.Ytmpcoclgcldclaa
