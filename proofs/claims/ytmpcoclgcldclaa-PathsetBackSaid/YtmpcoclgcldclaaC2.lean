/- Plain words of the search for what it costs to come to an accepting state: labels that only fall, whatever order they are taken in. No program. -/
import Derived.Test.YtmpcoclgcldclaaC1
namespace Go.Proofs.Ytmpcoclgcldclaa
def mc : Nat := 1048576
theorem mc_val : mc = 1048576 := rfl
/-- how many have come to a number -/
def cf (out : List Int) : Nat := out.countP (fun v => v != mxI)
theorem cf_le (out : List Int) : cf out ≤ out.length := List.countP_le_length
theorem cf_set_new : ∀ {out : List Int} {i : Nat} {c : Int}, out[i]? = some mxI → c ≠ mxI → cf (out.set i c) = cf out + 1
  | [], i, c, h, _ => by simp at h
  | v :: out, 0, c, h, hc => by
    have : v = mxI := by simpa using h
    subst this
    unfold cf
    simp [hc]
  | v :: out, i + 1, c, h, hc => by
    have ih := cf_set_new (out := out) (i := i) (c := c) (by simpa using h) hc
    unfold cf at ih ⊢
    simp only [List.set_cons_succ, List.countP_cons, ih]
    omega
theorem cf_set_old : ∀ {out : List Int} {i : Nat} {v c : Int}, out[i]? = some v → v ≠ mxI → c ≠ mxI → cf (out.set i c) = cf out
  | [], i, v, c, h, _, _ => by simp at h
  | u :: out, 0, v, c, h, hv, hc => by
    have : u = v := by simpa using h
    subst this
    unfold cf
    simp [hc, hv]
  | u :: out, i + 1, v, c, h, hv, hc => by
    have ih := cf_set_old (out := out) (i := i) (c := c) (by simpa using h) hv hc
    unfold cf at ih ⊢
    simp only [List.set_cons_succ, List.countP_cons, ih]
/-- a label's weight -/
def wt (B : Nat) (v : Int) : Nat := if v = mxI then B else v.toNat
def pot (B : Nat) (out : List Int) : Nat := (out.map (wt B)).sum
theorem pot_set {B : Nat} : ∀ {out : List Int} {i : Nat} {v c : Int}, out[i]? = some v → pot B (out.set i c) + wt B v = pot B out + wt B c
  | [], i, v, c, h => by simp at h
  | u :: out, 0, v, c, h => by
    have : u = v := by simpa using h
    subst this
    simp only [pot, List.set_cons_zero, List.map_cons, List.sum_cons]
    omega
  | u :: out, i + 1, v, c, h => by
    have ih := pot_set (B := B) (out := out) (i := i) (v := v) (c := c) (by simpa using h)
    simp only [pot, List.set_cons_succ, List.map_cons, List.sum_cons] at ih ⊢
    omega
theorem pot_start (B n : Nat) : pot B (List.replicate n mxI) = n * B := by
  induction n with
  | zero => simp [pot]
  | succ n ih =>
    simp only [pot, List.replicate_succ, List.map_cons, List.sum_cons] at ih ⊢
    rw [ih, Nat.succ_mul]
    simp [wt]
    omega
/-- the weight of no number -/
def bigW (n : Nat) : Nat := n * mc + 1
/-- all ways to a state have been gone -/
def Relaxed (d : D) (cs out : List Int) (s : Int) : Prop := ∀ r x : Int, 0 ≤ r ∧ r < d.A.length → 0 ≤ x ∧ x < d.K → d.step r x = s → lf out r ≠ mxI ∧ lf out r ≤ lf out s + cst cs x
structure LInv (d : D) (cs out : List Int) (T : List (Int × Int)) (E : Int → Prop) : Prop where
  len : out.length = d.A.length
  rng : ∀ s : Int, 0 ≤ s ∧ s < d.A.length → 0 ≤ lf out s ∧ lf out s ≤ mxI
  bd : ∀ s : Int, 0 ≤ s ∧ s < d.A.length → lf out s ≠ mxI → lf out s ≤ ((cf out * mc : Nat) : Int)
  sound : ∀ s : Int, 0 ≤ s ∧ s < d.A.length → lf out s ≠ mxI → ∃ u, Told d s u ∧ costW cs u = lf out s
  todo : ∀ p ∈ T, (0 ≤ p.2 ∧ p.2 < d.A.length) ∧ lf out p.2 ≤ p.1 ∧ 0 ≤ p.1 ∧ p.1 ≤ ((d.A.length * mc : Nat) : Int)
  open_ : ∀ s : Int, 0 ≤ s ∧ s < d.A.length → lf out s ≠ mxI → ¬ E s → (lf out s, s) ∈ T ∨ Relaxed d cs out s
  room : T.length + pot (bigW d.A.length) out ≤ d.A.length + d.A.length * bigW d.A.length
theorem lf_get {out : List Int} {s : Int} (h : s.toNat < out.length) : out[s.toNat]? = some (lf out s) := by
  unfold lf
  rw [List.getD_eq_getElem?_getD, List.getElem?_eq_getElem h]
  rfl
theorem lf_set_same {out : List Int} {s c : Int} (h : s.toNat < out.length) : lf (out.set s.toNat c) s = c := by
  unfold lf
  rw [List.getD_eq_getElem?_getD, List.getElem?_set_self h]
  rfl
theorem lf_set_other {out : List Int} {s t c : Int} (hs : 0 ≤ s) (ht : 0 ≤ t) (h : t ≠ s) : lf (out.set s.toNat c) t = lf out t := by
  unfold lf
  rw [List.getD_eq_getElem?_getD, List.getElem?_set_ne (by omega), List.getD_eq_getElem?_getD]
theorem lf_start (n : Nat) (s : Int) : lf (List.replicate n mxI) s = mxI := by
  unfold lf
  rw [List.getD_eq_getElem?_getD, List.getElem?_replicate]
  split <;> rfl
theorem LInv.start (d : D) (cs : List Int) (E : Int → Prop) : LInv d cs (List.replicate d.A.length mxI) [] E :=
  ⟨by simp, fun s _ => by rw [lf_start]; decide, fun s _ h => absurd (lf_start _ s) h, fun s _ h => absurd (lf_start _ s) h, by simp, fun s _ h => absurd (lf_start _ s) h, by rw [pot_start]; simp⟩
section
variable {d : D} {cs out : List Int} {T T' : List (Int × Int)} {E : Int → Prop}
/-- a label falls -/
theorem LInv.lower (h : LInv d cs out T E) {s c : Int} (hs : 0 ≤ s ∧ s < d.A.length) (h0 : 0 ≤ c) (hc : c < lf out s) (hu : ∃ u, Told d s u ∧ costW cs u = c)
    (hb : c = 0 ∨ ∃ t : Int, (0 ≤ t ∧ t < d.A.length) ∧ lf out t ≠ mxI ∧ c ≤ lf out t + (mc : Nat)) (hT : T'.Perm ((c, s) :: T)) :
    LInv d cs (out.set s.toNat c) T' E ∧ 2 * pot (bigW d.A.length) (out.set s.toNat c) + T'.length < 2 * pot (bigW d.A.length) out + T.length := by
  have hsl : s.toNat < out.length := by have := h.len; omega
  have hg := lf_get hsl
  have hr := h.rng s hs
  have hcm : c ≠ mxI := by omega
  have hbd : c ≤ ((cf (out.set s.toNat c) * mc : Nat) : Int) ∧ cf out ≤ cf (out.set s.toNat c) := by
    rcases hb with rfl | ⟨t, ht, htm, hct⟩
    · refine ⟨by omega, ?_⟩
      by_cases hm : lf out s = mxI
      · rw [cf_set_new (by rw [hg, hm]) hcm]; omega
      · rw [cf_set_old hg hm hcm]; exact Nat.le_refl _
    · have hbt := h.bd t ht htm
      by_cases hm : lf out s = mxI
      · rw [cf_set_new (by rw [hg, hm]) hcm, Nat.add_mul, Nat.one_mul]; omega
      · have hbs := h.bd s hs hm
        rw [cf_set_old hg hm hcm]; omega
  have hmul : cf out * mc ≤ cf (out.set s.toNat c) * mc := Nat.mul_le_mul_right _ hbd.2
  have hcl : cf (out.set s.toNat c) * mc ≤ d.A.length * mc := Nat.mul_le_mul_right _ (by have := cf_le (out.set s.toNat c); rw [List.length_set, h.len] at this; exact this)
  have hle : ∀ t : Int, 0 ≤ t → lf (out.set s.toNat c) t ≤ lf out t := by
    intro t ht
    by_cases e : t = s
    · subst e; rw [lf_set_same hsl]; omega
    · rw [lf_set_other hs.1 ht e]; exact Int.le_refl _
  have hne : ∀ t : Int, 0 ≤ t ∧ t < d.A.length → lf out t ≠ mxI → lf (out.set s.toNat c) t ≠ mxI := by
    intro t ht hm
    have := hle t ht.1
    have := (h.rng t ht).2
    omega
  have hpot := pot_set (B := bigW d.A.length) (c := c) hg
  have hwt : wt (bigW d.A.length) c < wt (bigW d.A.length) (lf out s) := by
    unfold wt
    rw [if_neg hcm]
    split
    · unfold bigW; omega
    · omega
  have hlen : T'.length = T.length + 1 := by rw [hT.length_eq]; rfl
  refine ⟨⟨by rw [List.length_set]; exact h.len, ?_, ?_, ?_, ?_, ?_, ?_⟩, by omega⟩
  · intro t ht
    by_cases e : t = s
    · subst e; rw [lf_set_same hsl]; omega
    · rw [lf_set_other hs.1 ht.1 e]; exact h.rng t ht
  · intro t ht hm
    by_cases e : t = s
    · subst e; rw [lf_set_same hsl]; exact hbd.1
    · rw [lf_set_other hs.1 ht.1 e] at hm ⊢
      have := h.bd t ht hm
      omega
  · intro t ht hm
    by_cases e : t = s
    · subst e; rw [lf_set_same hsl]; exact hu
    · rw [lf_set_other hs.1 ht.1 e] at hm ⊢
      exact h.sound t ht hm
  · intro p hp
    rcases List.mem_cons.1 (hT.mem_iff.1 hp) with rfl | hp
    · exact ⟨hs, by rw [lf_set_same hsl]; exact Int.le_refl _, h0, by omega⟩
    · obtain ⟨h1, h2, h3⟩ := h.todo p hp
      exact ⟨h1, Int.le_trans (hle _ h1.1) h2, h3⟩
  · intro t ht hm hE
    by_cases e : t = s
    · subst e; rw [lf_set_same hsl]; exact .inl (hT.mem_iff.2 (by simp))
    · rw [lf_set_other hs.1 ht.1 e] at hm ⊢
      rcases h.open_ t ht hm hE with h1 | h1
      · exact .inl (hT.mem_iff.2 (by simp [h1]))
      · refine .inr fun r x hr hx hst => ?_
        obtain ⟨h2, h3⟩ := h1 r x hr hx hst
        rw [lf_set_other hs.1 ht.1 e]
        exact ⟨hne r hr h2, Int.le_trans (hle r hr.1) h3⟩
  · have := h.room
    omega
/-- one that has been overtaken is dropped -/
theorem LInv.drop (h : LInv d cs out T E) {s c : Int} (hT : T.Perm ((c, s) :: T')) (hc : lf out s < c) : LInv d cs out T' E := by
  refine ⟨h.len, h.rng, h.bd, h.sound, fun p hp => h.todo p (hT.mem_iff.2 (by simp [hp])), ?_, by have := h.room; rw [hT.length_eq] at this; simp only [List.length_cons] at this; omega⟩
  intro t ht hm hE
  rcases h.open_ t ht hm hE with h1 | h1
  · rcases List.mem_cons.1 (hT.mem_iff.1 h1) with h2 | h2
    · injection h2 with h2 h3
      subst h3
      omega
    · exact .inl h2
  · exact .inr h1
/-- one is taken: its ways are to be gone -/
theorem LInv.take (h : LInv d cs out T (fun _ => False)) {s c : Int} (hT : T.Perm ((c, s) :: T')) : LInv d cs out T' (fun t => t = s) := by
  refine ⟨h.len, h.rng, h.bd, h.sound, fun p hp => h.todo p (hT.mem_iff.2 (by simp [hp])), ?_, by have := h.room; rw [hT.length_eq] at this; simp only [List.length_cons] at this; omega⟩
  intro t ht hm hE
  rcases h.open_ t ht hm (fun h => h) with h1 | h1
  · rcases List.mem_cons.1 (hT.mem_iff.1 h1) with h2 | h2
    · injection h2 with h2 h3
      exact absurd h3 hE
    · exact .inl h2
  · exact .inr h1
theorem LInv.gone {s : Int} (h : LInv d cs out T (fun t => t = s)) (hr : Relaxed d cs out s) : LInv d cs out T (fun _ => False) :=
  ⟨h.len, h.rng, h.bd, h.sound, h.todo, fun t ht hm _ => by
    by_cases e : t = s
    · subst e; exact .inr hr
    · exact h.open_ t ht hm e, h.room⟩
/-- the first k ways to a state have been gone -/
def RelTo (cs out : List Int) (W : List (Int × Int)) (c : Int) (k : Nat) : Prop := ∀ p ∈ W.take k, lf out p.1 ≠ mxI ∧ lf out p.1 ≤ c + cst cs p.2
/-- the ways to a state -/
def WaysTo (d : D) (W : List (Int × Int)) (s : Int) : Prop := (∀ p ∈ W, (0 ≤ p.1 ∧ p.1 < d.A.length) ∧ (0 ≤ p.2 ∧ p.2 < d.K) ∧ d.step p.1 p.2 = s) ∧ ∀ r x : Int, 0 ≤ r ∧ r < d.A.length → 0 ≤ x ∧ x < d.K → d.step r x = s → (r, x) ∈ W
theorem RelTo.relaxed {W : List (Int × Int)} {s c : Int} {k : Nat} (h : RelTo cs out W c k) (hw : WaysTo d W s) (hk : W.length ≤ k) (hc : lf out s = c) : Relaxed d cs out s := by
  intro r x hr hx hst
  rw [hc]
  exact h (r, x) (by rw [List.take_of_length_le hk]; exact hw.2 r x hr hx hst)
theorem RelTo.none {W : List (Int × Int)} {c : Int} : RelTo cs out W c 0 := fun p hp => by simp at hp
theorem RelTo.pass {W : List (Int × Int)} {c : Int} {k : Nat} {p : Int × Int} (h : RelTo cs out W c k) (hp : W[k]? = some p) (h1 : lf out p.1 ≤ c + cst cs p.2) (h2 : c + cst cs p.2 < mxI) : RelTo cs out W c (k + 1) := by
  intro q hq
  rw [take_snoc hp] at hq
  rcases List.mem_append.1 hq with hq | hq
  · exact h q hq
  · rw [List.mem_singleton.1 hq]; exact ⟨by omega, h1⟩
/-- a label falls while the ways to s are gone -/
theorem LInv.fall {W : List (Int × Int)} {s c : Int} {k : Nat} {r x : Int} (h : LInv d cs out T E) (hf : Fit d cs) (hw : WaysTo d W s) (hs : 0 ≤ s ∧ s < d.A.length) (hc : lf out s = c) (hcm : c < mxI) (hp : W[k]? = some (r, x)) (hr : RelTo cs out W c k)
    (hlt : c + cst cs x < lf out r) (hT : T'.Perm ((c + cst cs x, r) :: T)) :
    LInv d cs (out.set r.toNat (c + cst cs x)) T' E ∧ RelTo cs (out.set r.toNat (c + cst cs x)) W c (k + 1) ∧ lf (out.set r.toNat (c + cst cs x)) s = c ∧
      2 * pot (bigW d.A.length) (out.set r.toNat (c + cst cs x)) + T'.length < 2 * pot (bigW d.A.length) out + T.length := by
  obtain ⟨h1, h2, h3⟩ := hw.1 _ (List.mem_of_getElem? hp)
  simp only at h1 h2 h3
  have hcx := hf.cst h2
  have hcs := h.rng s hs
  have hrl : r.toNat < out.length := by have := h.len; omega
  have hrs : s ≠ r := fun e => by subst e; omega
  obtain ⟨g1, g2⟩ := h.lower h1 (by omega) hlt (by
    obtain ⟨u, hu, eu⟩ := h.sound s hs (by omega)
    exact ⟨x :: u, Told.cons.2 ⟨h2, by rw [h3]; exact hu⟩, by simp only [costW]; omega⟩) (.inr ⟨s, hs, by omega, by rw [mc_val]; omega⟩) hT
  refine ⟨g1, ?_, by rw [lf_set_other h1.1 hs.1 hrs]; exact hc, g2⟩
  intro q hq
  rw [take_snoc hp] at hq
  have hrr := h.rng r h1
  rcases List.mem_append.1 hq with hq | hq
  · obtain ⟨k1, k2⟩ := hr q hq
    by_cases e : q.1 = r
    · rw [e, lf_set_same hrl]
      rw [e] at k2
      exact ⟨by omega, by omega⟩
    · have hq1 := (hw.1 q (List.mem_of_mem_take hq)).1
      rw [lf_set_other h1.1 hq1.1 e]
      exact ⟨k1, k2⟩
  · rw [List.mem_singleton.1 hq]
    simp only
    rw [lf_set_same hrl]
    exact ⟨by omega, Int.le_refl _⟩
/-- nothing is left to do -/
theorem LInv.left (h : LInv d cs out [] (fun _ => False)) (hok : d.Ok) (hz : ∀ s : Int, 0 ≤ s ∧ s < d.A.length → d.acc s = true → lf out s = 0) : LeftOk d cs out := by
  refine ⟨h.len, h.sound, ?_⟩
  intro u
  induction u with
  | nil =>
    intro s hs hu
    have := hz s hs hu.2
    rw [this]
    exact ⟨by decide, by simp [costW]⟩
  | cons x u ih =>
    intro s hs hu
    obtain ⟨hx, hu'⟩ := Told.cons.1 hu
    have ht := hok.step_lt hs hx
    obtain ⟨i1, i2⟩ := ih _ ht hu'
    rcases h.open_ _ ht i1 (fun h => h) with h1 | h1
    · simp at h1
    · obtain ⟨r1, r2⟩ := h1 s x hs hx rfl
      refine ⟨r1, ?_⟩
      simp only [costW]
      omega
/-- those that accept cost nothing -/
def ZeroTo (d : D) (out : List Int) (k : Nat) : Prop := ∀ s : Int, 0 ≤ s ∧ s < d.A.length → s < k → d.acc s = true → lf out s = 0
/-- of those that are still to come no number is known -/
def MxFrom (d : D) (out : List Int) (k : Nat) : Prop := ∀ s : Int, k ≤ s ∧ s < d.A.length → lf out s = mxI
theorem ZeroTo.keep {k : Nat} {s c : Int} (h : ZeroTo d out k) (hs : 0 ≤ s ∧ s < d.A.length) (h0 : 0 ≤ c) (hc : c < lf out s) : ZeroTo d (out.set s.toNat c) k := by
  intro t ht htk hacc
  have := h t ht htk hacc
  have hne : t ≠ s := fun e => by subst e; omega
  rw [lf_set_other hs.1 ht.1 hne]
  exact this
theorem LInv.accept {k : Nat} (h : LInv d cs out T E) (hz : ZeroTo d out k) (hm : MxFrom d out k) (hk : k < d.A.length) (hacc : d.A[k]? = some true) (hT : T'.Perm (((0 : Int), (k : Int)) :: T)) :
    LInv d cs (out.set k 0) T' E ∧ ZeroTo d (out.set k 0) (k + 1) ∧ MxFrom d (out.set k 0) (k + 1) := by
  have hlk : lf out (k : Int) = mxI := hm k ⟨by omega, by omega⟩
  have hkl : (k : Int).toNat < out.length := by have := h.len; omega
  have hak : d.acc (k : Int) = true := by unfold D.acc; rw [Int.toNat_natCast, List.getD_eq_getElem?_getD, hacc]; rfl
  have hlow := h.lower (s := (k : Int)) (c := 0) (T' := T') ⟨by omega, by omega⟩ (Int.le_refl _) (by rw [hlk]; decide) ⟨[], ⟨rfl, hak⟩, rfl⟩ (.inl rfl) hT
  rw [Int.toNat_natCast] at hlow
  refine ⟨hlow.1, ?_, ?_⟩
  · intro s hs hsk ha
    by_cases e : s = (k : Int)
    · subst e; have := lf_set_same (c := 0) hkl; rwa [Int.toNat_natCast] at this
    · have := lf_set_other (out := out) (c := 0) (show 0 ≤ (k : Int) by omega) hs.1 e
      rw [Int.toNat_natCast] at this
      rw [this]
      exact hz s hs (by omega) ha
  · intro s hs
    have := lf_set_other (out := out) (c := 0) (show 0 ≤ (k : Int) by omega) (show 0 ≤ s by omega) (by omega)
    rw [Int.toNat_natCast] at this
    rw [this]
    exact hm s ⟨by omega, hs.2⟩
theorem ZeroTo.skip {k : Nat} (hz : ZeroTo d out k) (hacc : d.A[k]? = some false) : ZeroTo d out (k + 1) := by
  intro s hs hsk ha
  by_cases e : s = (k : Int)
  · subst e
    unfold D.acc at ha
    rw [Int.toNat_natCast, List.getD_eq_getElem?_getD, hacc] at ha
    cases ha
  · exact hz s hs (by omega) ha
theorem MxFrom.skip {k : Nat} (hm : MxFrom d out k) : MxFrom d out (k + 1) := fun s hs => hm s ⟨by omega, hs.2⟩
end
end Go.Proofs.Ytmpcoclgcldclaa
