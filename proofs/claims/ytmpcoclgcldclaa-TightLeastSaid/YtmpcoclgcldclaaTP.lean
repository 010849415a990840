/- Plain words of automata with as few states as can be: numbering, classes that are split, what is told from a state, counts, products. No program. -/
import Derived.Test.YtmpcoclgcldclaaW1
import Derived.Test.YtmpcoclgcldclaaW2
namespace Go.Proofs.Ytmpcoclgcldclaa
/-- the greatest of these numbers, none of them below 0 -/
def mxN (l : List Int) : Int := l.foldl max 0
theorem foldl_max_ge : ∀ (m : List Int) (a : Int), a ≤ m.foldl max a
  | [], a => Int.le_refl _
  | x :: m, a => by
    have := foldl_max_ge m (max a x)
    simp only [List.foldl_cons]
    omega
theorem foldl_max_lt : ∀ (m : List Int) (a b : Int), a < b → (∀ x ∈ m, x < b) → m.foldl max a < b
  | [], a, b, h, _ => h
  | x :: m, a, b, h, hx => by
    simp only [List.foldl_cons]
    have := hx x (by simp)
    exact foldl_max_lt m (max a x) b (by omega) fun y hy => hx y (by simp [hy])
theorem mxN_snoc (l : List Int) (x : Int) : mxN (l ++ [x]) = max (mxN l) x := by simp [mxN, List.foldl_append]
theorem mxN_pos (l : List Int) : 0 ≤ mxN l := foldl_max_ge l 0
theorem mxN_append (l m : List Int) : mxN l ≤ mxN (l ++ m) := by
  unfold mxN
  rw [List.foldl_append]
  exact foldl_max_ge m _
theorem mxN_take {l : List Int} {p q : Nat} (h : p ≤ q) : mxN (l.take p) ≤ mxN (l.take q) := by
  have e : l.take q = l.take p ++ (l.take q).drop p := by
    have h1 : (l.take q).take p = l.take p := by rw [List.take_take]; congr 1; omega
    rw [← h1, List.take_append_drop]
  rw [e]
  exact mxN_append _ _
theorem mxN_lt {l : List Int} {b : Int} (hb : 0 < b) (h : ∀ x ∈ l, x < b) : mxN l < b := foldl_max_lt l 0 b hb h
/-- from two states the same is told -/
def LangEq (d : D) (s : Int) (e : D) (t : Int) : Prop := ∀ u, symsB d.K u = true → d.acc (d.run s u) = e.acc (e.run t u)
theorem LangEq.step {d e : D} {s t x : Int} (h : LangEq d s e t) (hx : 0 ≤ x ∧ x < d.K) : LangEq d (d.step s x) e (e.step t x) := fun u hu =>
  h (x :: u) (symsB_iff.2 fun y hy => by
    rcases List.mem_cons.1 hy with rfl | hy
    · exact hx
    · exact symsB_iff.1 hu y hy)
theorem LangEq.symm {d e : D} {s t : Int} (h : LangEq d s e t) (hK : d.K = e.K) : LangEq e t d s := fun u hu => (h u (by rw [hK]; exact hu)).symm
theorem LangEq.trans {d e f : D} {s t r : Int} (h : LangEq d s e t) (h' : LangEq e t f r) (hK : d.K = e.K) : LangEq d s f r := fun u hu => (h u hu).trans (h' u (by rw [← hK]; exact hu))
/-- numbered in the order in which they are come to -/
structure Canon (d : D) : Prop where
  s0 : d.S = 0
  grow : ∀ p, p < d.N.length → d.N.getD p 0 ≤ mxN (d.N.take p) + 1
  rows : ∀ t : Nat, 0 < t → t < d.A.length → (t : Int) ≤ mxN (d.N.take (t * d.K.toNat))
/-- no two states tell the same -/
def Sep (d : D) : Prop := ∀ s t : Int, 0 ≤ s ∧ s < d.A.length → 0 ≤ t ∧ t < d.A.length → LangEq d s d t → s = t
theorem D.Ok.mem {d : D} (h : d.Ok) {p : Nat} (hp : p < d.N.length) : 0 ≤ d.N.getD p 0 ∧ d.N.getD p 0 < d.A.length := by
  obtain ⟨_, _, _, _, _, _, _, h8⟩ := h
  rw [List.getD_eq_getElem?_getD, List.getElem?_eq_getElem hp, Option.getD_some]
  exact h8 _ (List.getElem_mem hp)
theorem D.Ok.mx {d : D} (h : d.Ok) (p : Nat) : mxN (d.N.take p) < d.A.length := by
  obtain ⟨_, _, h3, _, _, _, _, h8⟩ := h
  exact mxN_lt (by omega) fun x hx => (h8 x (List.mem_of_mem_take hx)).2
theorem D.Ok.nlen {d : D} (h : d.Ok) : d.N.length = d.A.length * d.K.toNat := by
  obtain ⟨h1, _, _, _, h5, _⟩ := h
  obtain ⟨k, hk⟩ := Int.eq_ofNat_of_zero_le (show 0 ≤ d.K by omega)
  rw [hk] at h5 ⊢
  rw [Int.toNat_natCast]
  exact_mod_cast h5
theorem take_snoc_getD {l : List Int} {p : Nat} (h : p < l.length) : l.take (p + 1) = l.take p ++ [l.getD p 0] := by
  rw [take_snoc (List.getElem?_eq_getElem h), List.getD_eq_getElem?_getD, List.getElem?_eq_getElem h]
  rfl
theorem step_at {d : D} (h : d.Ok) (p : Nat) : d.step ((p / d.K.toNat : Nat) : Int) ((p % d.K.toNat : Nat) : Int) = d.N.getD p 0 := by
  obtain ⟨k, hk⟩ := Int.eq_ofNat_of_zero_le (show 0 ≤ d.K by have := h.1; omega)
  unfold D.step
  rw [hk, Int.toNat_natCast]
  have : ((p / k : Nat) : Int) * (k : Int) + ((p % k : Nat) : Int) = ((p / k * k + p % k : Nat) : Int) := by simp
  rw [this, Int.toNat_natCast, Nat.div_add_mod']
theorem canon_pref {d e : D} (hd : d.Ok) (he : e.Ok) (cd : Canon d) (ce : Canon e) (sd : Sep d) (se : Sep e) (hK : d.K = e.K) (h0 : LangEq d 0 e 0) :
    ∀ p, p ≤ d.N.length → p ≤ e.N.length → d.N.take p = e.N.take p ∧ ∀ t : Int, 0 ≤ t → t ≤ mxN (d.N.take p) → LangEq d t e t
  | 0, _, _ => ⟨rfl, fun t h1 h2 => by
      have : t = 0 := by simp [mxN] at h2; omega
      subst this
      exact h0⟩
  | p + 1, hp, hp' => by
    obtain ⟨ih1, ih2⟩ := canon_pref hd he cd ce sd se hK h0 p (by omega) (by omega)
    have k1 : 1 ≤ d.K.toNat := by have := hd.1; omega
    have hi : p / d.K.toNat < d.A.length := Nat.div_lt_of_lt_mul (by have := hd.nlen; rw [Nat.mul_comm]; omega)
    have hx : p % d.K.toNat < d.K.toNat := Nat.mod_lt _ (by omega)
    have him : ((p / d.K.toNat : Nat) : Int) ≤ mxN (d.N.take p) := by
      rcases Nat.eq_zero_or_pos (p / d.K.toNat) with h | h
      · rw [h]; exact mxN_pos _
      · exact Int.le_trans (cd.rows _ h hi) (mxN_take (Nat.div_mul_le_self p _))
    have hl := (ih2 _ (Int.natCast_nonneg _) him).step (x := ((p % d.K.toNat : Nat) : Int)) (by omega)
    rw [step_at hd] at hl
    rw [show d.K.toNat = e.K.toNat by rw [hK], step_at he] at hl
    have rd := hd.mem (p := p) (by omega)
    have re := he.mem (p := p) (by omega)
    have md := hd.mx p
    have me := he.mx p
    have gd := cd.grow p (by omega)
    have ge := ce.grow p (by omega)
    rw [← ih1] at me ge
    generalize hs : d.N.getD p 0 = s at *
    generalize hs' : e.N.getD p 0 = s' at *
    have hss : s = s' := by
      by_cases h1 : s ≤ mxN (d.N.take p)
      · have h2 := ih2 s rd.1 h1
        exact se s s' ⟨rd.1, by omega⟩ re ((h2.symm hK).trans hl hK.symm)
      · by_cases h2 : s' ≤ mxN (d.N.take p)
        · have h3 := ih2 s' re.1 h2
          exact sd s s' rd ⟨re.1, by omega⟩ (hl.trans (h3.symm hK) hK)
        · omega
    subst hss
    rw [take_snoc_getD (by omega), take_snoc_getD (l := e.N) (by omega), hs, hs', ih1]
    refine ⟨rfl, fun t h1 h2 => ?_⟩
    rw [← ih1, mxN_snoc] at h2
    by_cases h3 : t ≤ mxN (d.N.take p)
    · exact ih2 t h1 h3
    · have : t = s := by omega
      subst this
      exact hl
theorem canon_le {d e : D} (hd : d.Ok) (he : e.Ok) (cd : Canon d) (ce : Canon e) (sd : Sep d) (se : Sep e) (hK : d.K = e.K) (h0 : LangEq d 0 e 0) : e.A.length ≤ d.A.length := by
  rcases Nat.lt_or_ge d.A.length e.A.length with h | h
  · exfalso
    have hl : d.N.length ≤ e.N.length := by
      rw [hd.nlen, he.nlen, hK]
      exact Nat.mul_le_mul_right _ (by omega)
    obtain ⟨h1, _⟩ := canon_pref hd he cd ce sd se hK h0 d.N.length (Nat.le_refl _) hl
    have h2 := ce.rows d.A.length (by have := hd.2.2.1; omega) h
    rw [← hK, ← hd.nlen, ← h1] at h2
    have := hd.mx d.N.length
    omega
  · exact h
/-- there is but one -/
theorem canon_uniq {d e : D} (hd : d.Ok) (he : e.Ok) (cd : Canon d) (ce : Canon e) (sd : Sep d) (se : Sep e) (hK : d.K = e.K) (h0 : LangEq d 0 e 0) : d = e := by
  have hA : d.A.length = e.A.length := Nat.le_antisymm (canon_le he hd ce cd se sd hK.symm (h0.symm hK)) (canon_le hd he cd ce sd se hK h0)
  have hNl : d.N.length = e.N.length := by rw [hd.nlen, he.nlen, hK, hA]
  obtain ⟨h1, h2⟩ := canon_pref hd he cd ce sd se hK h0 d.N.length (Nat.le_refl _) (by omega)
  have hN : d.N = e.N := by
    rw [List.take_length] at h1
    rw [h1, hNl, List.take_length]
  have hAA : d.A = e.A := by
    refine List.ext_getElem hA fun i hi hi' => ?_
    have hm : (i : Int) ≤ mxN (d.N.take d.N.length) := by
      rcases Nat.eq_zero_or_pos i with h | h
      · subst h; exact mxN_pos _
      · refine Int.le_trans (cd.rows i h hi) (mxN_take ?_)
        rw [hd.nlen]
        exact Nat.mul_le_mul_right _ (by omega)
    have h3 := h2 i (by omega) hm [] rfl
    have h4 : d.acc (i : Int) = e.acc (i : Int) := h3
    unfold D.acc at h4
    rw [Int.toNat_natCast, List.getD_eq_getElem?_getD, List.getElem?_eq_getElem hi, List.getD_eq_getElem?_getD, List.getElem?_eq_getElem hi'] at h4
    exact h4
  obtain ⟨dk, dS, dN, dA⟩ := d
  obtain ⟨ek, eS, eN, eA⟩ := e
  have s1 := cd.s0
  have s2 := ce.s0
  simp only at hK hN hAA s1 s2
  subst hK hN hAA s1 s2
  rfl
end Go.Proofs.Ytmpcoclgcldclaa
namespace Go.Proofs.Ytmpcoclgcldclaa
def gI (L : List Int) (i : Nat) : Int := L.getD i 0
theorem gI_left {L M : List Int} {i : Nat} (h : i < L.length) : gI (L ++ M) i = gI L i := getD_append_left h
theorem gI_last (L : List Int) (q : Int) : gI (L ++ [q]) L.length = q := by
  unfold gI; rw [getD_append_right (Nat.le_refl _)]; simp
theorem gI_mem {L : List Int} {i : Nat} (h : i < L.length) : gI L i ∈ L := by
  unfold gI; rw [List.getD_eq_getElem?_getD, List.getElem?_eq_getElem h]; exact List.getElem_mem h
/-- rows i and the first x of the next one are numbered -/
structure OInv (d : D) (r : Int → Int → Prop) (L N : List Int) (i x : Nat) : Prop where
  len : N.length = i * d.K.toNat + x
  start : L[0]? = some d.S
  rng : ∀ s ∈ L, 0 ≤ s ∧ s < d.A.length
  sep : ∀ a b : Nat, a < L.length → b < L.length → a ≠ b → ¬ r (gI L a) (gI L b)
  ent : ∀ p : Nat, p < N.length → (0 ≤ gI N p ∧ gI N p < L.length) ∧ r (gI L (gI N p).toNat) (d.step (gI L (p / d.K.toNat)) ((p % d.K.toNat : Nat) : Int))
  mx : (L.length : Int) = mxN N + 1
  grow : ∀ p : Nat, p < N.length → gI N p ≤ mxN (N.take p) + 1
  rows : ∀ t : Nat, 0 < t → t < L.length → t ≤ i → (t : Int) ≤ mxN (N.take (t * d.K.toNat))
section
variable {d : D} {r : Int → Int → Prop} {L N : List Int} {i x : Nat}
theorem OInv.init (hd : d.Ok) : OInv d r [d.S] [] 0 0 where
  len := by simp
  start := rfl
  rng := fun s hs => by rw [List.mem_singleton.1 hs]; exact ⟨hd.2.2.2.2.2.1, hd.2.2.2.2.2.2.1⟩
  sep := fun a b ha hb hne => by simp at ha hb; omega
  ent := fun p hp => by simp at hp
  mx := by simp [mxN]
  grow := fun p hp => by simp at hp
  rows := fun t h0 h1 _ => by simp at h1; omega
theorem OInv.next (h : OInv d r L N i x) (hx : d.K.toNat ≤ x) (hx' : x ≤ d.K.toNat) : OInv d r L N (i + 1) 0 where
  len := by rw [h.len, Nat.succ_mul]; omega
  start := h.start
  rng := h.rng
  sep := h.sep
  ent := h.ent
  mx := h.mx
  grow := h.grow
  rows := fun t h0 h1 h2 => by
    by_cases e : t ≤ i
    · exact h.rows t h0 h1 e
    · have e2 : t = i + 1 := by omega
      subst e2
      have hl : N.length ≤ (i + 1) * d.K.toNat := by rw [h.len, Nat.succ_mul]; omega
      rw [List.take_of_length_le hl]
      have := h.mx
      omega
theorem OInv.take_snoc' (hl : N.length = i * d.K.toNat + x) {t : Nat} (ht : t ≤ i) (y : Int) : (N ++ [y]).take (t * d.K.toNat) = N.take (t * d.K.toNat) := by
  have : t * d.K.toNat ≤ i * d.K.toNat := Nat.mul_le_mul_right _ ht
  exact List.take_append_of_le_length (by omega)
theorem OInv.lead (hx : x < d.K.toNat) : (i * d.K.toNat + x) / d.K.toNat = i ∧ (i * d.K.toNat + x) % d.K.toNat = x := by
  constructor
  · rw [Nat.add_comm, Nat.add_mul_div_right _ _ (by omega), Nat.div_eq_of_lt hx]; omega
  · rw [Nat.add_comm, Nat.add_mul_mod_self_right, Nat.mod_eq_of_lt hx]
theorem OInv.seen (h : OInv d r L N i x) (hx : x < d.K.toNat) {j : Nat} (hj : j < L.length) (hr : r (gI L j) (d.step (gI L i) (x : Int))) : OInv d r L (N ++ [(j : Int)]) i (x + 1) where
  len := by rw [List.length_append, h.len]; rfl
  start := h.start
  rng := h.rng
  sep := h.sep
  ent := fun p hp => by
    by_cases e : p < N.length
    · rw [gI_left e]; exact h.ent p e
    · have e2 : p = N.length := by simp at hp; omega
      subst e2
      rw [gI_last, Int.toNat_natCast]
      refine ⟨⟨by omega, by omega⟩, ?_⟩
      rw [h.len, (OInv.lead hx).1, (OInv.lead hx).2]
      exact hr
  mx := by rw [mxN_snoc]; have := h.mx; omega
  grow := fun p hp => by
    by_cases e : p < N.length
    · rw [gI_left e, List.take_append_of_le_length (by omega)]; exact h.grow p e
    · have e2 : p = N.length := by simp at hp; omega
      subst e2
      rw [gI_last, List.take_append_of_le_length (by omega), List.take_length]
      have := h.mx
      omega
  rows := fun t h0 h1 h2 => by rw [OInv.take_snoc' h.len h2]; exact h.rows t h0 h1 h2
theorem OInv.fresh (h : OInv d r L N i x) (hd : d.Ok) (hi : i < L.length) (hx : x < d.K.toNat) (hrefl : ∀ s : Int, (0 ≤ s ∧ s < d.A.length) → r s s) (hsymm : ∀ s t, r s t → r t s)
    (hn : ∀ j, j < L.length → ¬ r (gI L j) (d.step (gI L i) (x : Int))) : OInv d r (L ++ [d.step (gI L i) (x : Int)]) (N ++ [(L.length : Int)]) i (x + 1) := by
  have hs : 0 ≤ d.step (gI L i) (x : Int) ∧ d.step (gI L i) (x : Int) < d.A.length := hd.step_lt (h.rng _ (gI_mem hi)) (by omega)
  have hpi : ∀ p, p < N.length → p / d.K.toNat < L.length := fun p hp => by
    have : p / d.K.toNat ≤ i := by
      rw [h.len] at hp
      have h1 : p / d.K.toNat < i + 1 := Nat.div_lt_of_lt_mul (by rw [Nat.mul_comm, Nat.succ_mul]; omega)
      omega
    omega
  exact {
    len := by rw [List.length_append, h.len]; rfl
    start := by rw [List.getElem?_append_left (by omega)]; exact h.start
    rng := fun s hs' => by
      rcases List.mem_append.1 hs' with hs' | hs'
      · exact h.rng s hs'
      · rw [List.mem_singleton.1 hs']; exact hs
    sep := fun a b ha hb hne => by
      simp only [List.length_append, List.length_singleton] at ha hb
      by_cases ea : a < L.length
      · by_cases eb : b < L.length
        · rw [gI_left ea, gI_left eb]; exact h.sep a b ea eb hne
        · have e2 : b = L.length := by omega
          subst e2
          rw [gI_left ea, gI_last]; exact hn a ea
      · have e2 : a = L.length := by omega
        subst e2
        have eb : b < L.length := by omega
        rw [gI_last, gI_left eb]
        exact fun hr => hn b eb (hsymm _ _ hr)
    ent := fun p hp => by
      by_cases e : p < N.length
      · obtain ⟨⟨e1, e2⟩, e3⟩ := h.ent p e
        rw [gI_left e, gI_left (by omega), gI_left (hpi p e)]
        exact ⟨⟨e1, by simp; omega⟩, e3⟩
      · have e2 : p = N.length := by simp at hp; omega
        subst e2
        rw [gI_last, Int.toNat_natCast, gI_last]
        refine ⟨⟨by omega, by simp; omega⟩, ?_⟩
        rw [h.len, (OInv.lead hx).1, (OInv.lead hx).2, gI_left hi]
        exact hrefl _ hs
    mx := by rw [mxN_snoc]; have := h.mx; simp; omega
    grow := fun p hp => by
      by_cases e : p < N.length
      · rw [gI_left e, List.take_append_of_le_length (by omega)]; exact h.grow p e
      · have e2 : p = N.length := by simp at hp; omega
        subst e2
        rw [gI_last, List.take_append_of_le_length (by omega), List.take_length]
        have := h.mx
        omega
    rows := fun t h0 h1 h2 => by
      rw [OInv.take_snoc' h.len h2]
      by_cases e : t < L.length
      · exact h.rows t h0 e h2
      · omega }
theorem OInv.nodup (h : OInv d r L N i x) (hrefl : ∀ s : Int, (0 ≤ s ∧ s < d.A.length) → r s s) : L.Nodup := by
  rw [List.Nodup, List.pairwise_iff_getElem]
  intro a b ha hb hab e
  have h1 := h.sep a b ha hb (by omega)
  unfold gI at h1
  rw [List.getD_eq_getElem?_getD, List.getElem?_eq_getElem ha, List.getD_eq_getElem?_getD, List.getElem?_eq_getElem hb, Option.getD_some, Option.getD_some, ← e] at h1
  exact h1 (hrefl _ (h.rng _ (List.getElem_mem ha)))
theorem OInv.le (h : OInv d r L N i x) (hrefl : ∀ s : Int, (0 ≤ s ∧ s < d.A.length) → r s s) : L.length ≤ d.A.length := by
  have h1 := h.nodup hrefl
  have h2 := nodup_lt d.A.length (L.map Int.toNat) (by
    rw [List.Nodup, List.pairwise_map]
    refine List.Pairwise.imp_of_mem ?_ h1
    intro a b ha hb hne e
    have := h.rng a ha
    have := h.rng b hb
    omega) (by
    intro t ht
    obtain ⟨a, ha, rfl⟩ := List.mem_map.1 ht
    have := h.rng a ha
    omega)
  simpa using h2
/-- what the numbering gives -/
def ordD (d : D) (L N : List Int) : D := { K := d.K, S := 0, N := N, A := L.map d.acc }
theorem OInv.ok (h : OInv d r L N L.length 0) (hd : d.Ok) (hrefl : ∀ s : Int, (0 ≤ s ∧ s < d.A.length) → r s s) : (ordD d L N).Ok := by
  have hle := h.le hrefl
  have hpos : 0 < L.length := (List.getElem?_eq_some_iff.1 h.start).1
  obtain ⟨h1, h2, h3, h4, h5, h6, h7, h8⟩ := hd
  have el : (ordD d L N).A.length = L.length := by simp [ordD]
  refine ⟨h1, h2, by rw [el]; omega, by rw [el]; omega, ?_, by simp [ordD], by rw [el]; simp [ordD]; omega, ?_⟩
  · rw [el]
    show (N.length : Int) = L.length * d.K
    rw [h.len]
    obtain ⟨k, hk⟩ := Int.eq_ofNat_of_zero_le (show 0 ≤ d.K by omega)
    rw [hk, Int.toNat_natCast]
    simp
  · intro s hs
    rw [el]
    obtain ⟨p, hp, rfl⟩ := List.getElem_of_mem (show s ∈ N from hs)
    have := (h.ent p hp).1
    unfold gI at this
    rw [List.getD_eq_getElem?_getD, List.getElem?_eq_getElem hp, Option.getD_some] at this
    exact this
theorem OInv.canon (h : OInv d r L N L.length 0) : Canon (ordD d L N) where
  s0 := rfl
  grow := fun p hp => h.grow p hp
  rows := fun t h0 h1 => by
    have el : (ordD d L N).A.length = L.length := by simp [ordD]
    rw [el] at h1
    exact h.rows t h0 h1 (by omega)
/-- classes that are kept by every step -/
structure Cong (d : D) (r : Int → Int → Prop) : Prop where
  refl : ∀ s : Int, (0 ≤ s ∧ s < d.A.length) → r s s
  symm : ∀ s t, r s t → r t s
  trans : ∀ s t u, r s t → r t u → r s u
  acc : ∀ s t : Int, (0 ≤ s ∧ s < d.A.length) → (0 ≤ t ∧ t < d.A.length) → r s t → d.acc s = d.acc t
  step : ∀ s t x : Int, (0 ≤ s ∧ s < d.A.length) → (0 ≤ t ∧ t < d.A.length) → (0 ≤ x ∧ x < d.K) → r s t → r (d.step s x) (d.step t x)
theorem OInv.step_ (h : OInv d r L N L.length 0) {a : Nat} (ha : a < L.length) {x : Int} (hx : 0 ≤ x ∧ x < d.K) :
    (0 ≤ (ordD d L N).step a x ∧ (ordD d L N).step a x < L.length) ∧ r (gI L ((ordD d L N).step a x).toNat) (d.step (gI L a) x) := by
  obtain ⟨k, hk⟩ := Int.eq_ofNat_of_zero_le (show 0 ≤ d.K by omega)
  obtain ⟨y, rfl⟩ := Int.eq_ofNat_of_zero_le hx.1
  have hyk : y < d.K.toNat := by omega
  have e : (ordD d L N).step (a : Int) (y : Int) = gI N (a * d.K.toNat + y) := by
    unfold D.step gI
    show N.getD _ 0 = _
    congr 1
    show ((a : Int) * d.K + (y : Int)).toNat = _
    rw [hk, Int.toNat_natCast, show (a : Int) * (k : Int) + (y : Int) = ((a * k + y : Nat) : Int) by simp, Int.toNat_natCast]
  have hp : a * d.K.toNat + y < N.length := by
    rw [h.len]
    have : (a + 1) * d.K.toNat ≤ L.length * d.K.toNat := Nat.mul_le_mul_right _ ha
    rw [Nat.succ_mul] at this
    omega
  have he := h.ent _ hp
  rw [(OInv.lead hyk).1, (OInv.lead hyk).2] at he
  rw [e]
  exact he
theorem OInv.run_ (h : OInv d r L N L.length 0) (hd : d.Ok) (hc : Cong d r) : ∀ (u : List Int) (a s : Int), (0 ≤ a ∧ a < L.length) → (0 ≤ s ∧ s < d.A.length) → symsB d.K u = true → r (gI L a.toNat) s →
    (0 ≤ (ordD d L N).run a u ∧ (ordD d L N).run a u < L.length) ∧ (0 ≤ d.run s u ∧ d.run s u < d.A.length) ∧ r (gI L ((ordD d L N).run a u).toNat) (d.run s u)
  | [], a, s, ha, hs, _, hr => ⟨ha, hs, hr⟩
  | x :: u, a, s, ha, hs, hu, hr => by
    have hu' := symsB_iff.1 hu
    have hx := hu' x (by simp)
    obtain ⟨h1, h2⟩ := h.step_ (a := a.toNat) (by omega) hx
    rw [Int.toNat_of_nonneg ha.1] at h1 h2
    have hLa := h.rng _ (gI_mem (L := L) (i := a.toNat) (by omega))
    exact h.run_ hd hc u _ _ h1 (hd.step_lt hs hx) (symsB_iff.2 fun y hy => hu' y (by simp [hy])) (hc.trans _ _ _ h2 (hc.step _ _ _ hLa hs hx hr))
theorem ordD_acc {a : Int} (ha : 0 ≤ a ∧ a < L.length) : (ordD d L N).acc a = d.acc (gI L a.toNat) := by
  have hl : a.toNat < L.length := by omega
  unfold D.acc gI
  show (L.map _).getD _ _ = _
  rw [List.getD_eq_getElem?_getD, List.getElem?_map, List.getElem?_eq_getElem hl, List.getD_eq_getElem?_getD (l := L), List.getElem?_eq_getElem hl]
  rfl
theorem OInv.lang (h : OInv d r L N L.length 0) (hd : d.Ok) (hc : Cong d r) {a s : Int} (ha : 0 ≤ a ∧ a < L.length) (hs : 0 ≤ s ∧ s < d.A.length) (hr : r (gI L a.toNat) s) : LangEq (ordD d L N) a d s := by
  intro u hu
  obtain ⟨h1, h2, h3⟩ := h.run_ hd hc u a s ha hs hu hr
  rw [ordD_acc h1]
  exact hc.acc _ _ (h.rng _ (gI_mem (by omega))) h2 h3
theorem OInv.lang0 (h : OInv d r L N L.length 0) (hd : d.Ok) (hc : Cong d r) : LangEq (ordD d L N) 0 d d.S := by
  have hpos : 0 < L.length := (List.getElem?_eq_some_iff.1 h.start).1
  have e : gI L 0 = d.S := by unfold gI; rw [List.getD_eq_getElem?_getD, h.start]; rfl
  exact h.lang hd hc ⟨by omega, by omega⟩ ⟨hd.2.2.2.2.2.1, hd.2.2.2.2.2.2.1⟩ (by show r (gI L 0) _; rw [e]; exact hc.refl _ ⟨hd.2.2.2.2.2.1, hd.2.2.2.2.2.2.1⟩)
theorem OInv.sep_ (h : OInv d r L N L.length 0) (hd : d.Ok) (hc : Cong d r) (hf : ∀ s t : Int, (0 ≤ s ∧ s < d.A.length) → (0 ≤ t ∧ t < d.A.length) → LangEq d s d t → r s t) : Sep (ordD d L N) := by
  have el : (ordD d L N).A.length = L.length := by simp [ordD]
  intro s t hs ht hl
  rw [el] at hs ht
  by_cases e : s = t
  · exact e
  · exfalso
    have hs' := h.rng _ (gI_mem (L := L) (i := s.toNat) (by omega))
    have ht' := h.rng _ (gI_mem (L := L) (i := t.toNat) (by omega))
    have l1 := h.lang hd hc hs hs' (hc.refl _ hs')
    have l2 := h.lang hd hc ht ht' (hc.refl _ ht')
    exact h.sep s.toNat t.toNat (by omega) (by omega) (by omega) (hf _ _ hs' ht' (((l1.symm rfl).trans hl rfl).trans l2 rfl))
end
/-- the one with the fewest states -/
structure TightOf (d e : D) : Prop where
  ok : e.Ok
  canon : Canon e
  sep : Sep e
  k : e.K = d.K
  lang : LangEq e 0 d d.S
  le : e.A.length ≤ d.A.length
theorem TightOf.uniq {d d' e e' : D} (h : TightOf d e) (h' : TightOf d' e') (hK : d.K = d'.K) (hl : LangEq d d.S d' d'.S) : e = e' := by
  refine canon_uniq h.ok h'.ok h.canon h'.canon h.sep h'.sep (by rw [h.k, h'.k, hK]) ?_
  exact (h.lang.trans hl h.k).trans (h'.lang.symm h'.k) (by rw [h.k, hK])
end Go.Proofs.Ytmpcoclgcldclaa
namespace Go.Proofs.Ytmpcoclgcldclaa
def inR (d : D) (s : Int) : Prop := 0 ≤ s ∧ s < d.A.length
def gM (M : List (List Int)) (c : Nat) : List Int := M.getD c []
/-- all of these get one class -/
def setAll (cls l : List Int) (v : Int) : List Int := l.foldl (fun c s => c.set s.toNat v) cls
theorem setAll_snoc (cls l : List Int) (s v : Int) : setAll cls (l ++ [s]) v = (setAll cls l v).set s.toNat v := by simp [setAll, List.foldl_append]
theorem setAll_len (v : Int) : ∀ (l cls : List Int), (setAll cls l v).length = cls.length
  | [], _ => rfl
  | s :: l, cls => by
    show (setAll (cls.set s.toNat v) l v).length = _
    rw [setAll_len v l, List.length_set]
theorem gI_set_same {l : List Int} {i : Nat} {v : Int} (h : i < l.length) : gI (l.set i v) i = v := getD_set_eq h
theorem gI_set_ne {l : List Int} {i j : Nat} {v : Int} (h : i ≠ j) : gI (l.set i v) j = gI l j := getD_set_ne h
theorem setAll_in (v : Int) : ∀ (l cls : List Int) (s : Int), 0 ≤ s → s.toNat < cls.length → (∀ t ∈ l, 0 ≤ t) → gI (setAll cls l v) s.toNat = if s ∈ l then v else gI cls s.toNat
  | [], cls, s, _, _, _ => by simp [setAll]
  | t :: l, cls, s, h0, hs, ht => by
    show gI (setAll (cls.set t.toNat v) l v) s.toNat = _
    rw [setAll_in v l _ s h0 (by rw [List.length_set]; exact hs) (fun x hx => ht x (by simp [hx]))]
    by_cases e1 : s ∈ l
    · rw [if_pos e1, if_pos (by simp [e1])]
    · rw [if_neg e1]
      by_cases e2 : s = t
      · subst e2
        rw [if_pos (by simp), gI_set_same hs]
      · have := ht t (by simp)
        rw [if_neg (by simp [e1, e2]), gI_set_ne (by omega)]
/-- as sets they are one -/
def SameSet (U V : List Int) : Prop := ∀ s, s ∈ U ↔ s ∈ V
structure Part (d : D) (cls : List Int) (M : List (List Int)) : Prop where
  len : cls.length = d.A.length
  rng : ∀ s, inR d s → 0 ≤ gI cls s.toNat ∧ gI cls s.toNat < M.length
  mem : ∀ c, c < M.length → ∀ s, s ∈ gM M c ↔ (inR d s ∧ gI cls s.toNat = c)
  nd : ∀ c, c < M.length → (gM M c).Nodup
  sat : ∀ s t, inR d s → inR d t → LangEq d s d t → gI cls s.toNat = gI cls t.toNat
  accs : ∀ s t, inR d s → inR d t → gI cls s.toNat = gI cls t.toNat → d.acc s = d.acc t
  ne : ∃ e, e ≤ 1 ∧ ∀ c, c < M.length → c ≠ e → gM M c ≠ []
  two : 2 ≤ M.length
/-- of these states none tells what one outside tells -/
def Satd (d : D) (U : List Int) : Prop := ∀ s t, inR d s → inR d t → LangEq d s d t → s ∈ U → t ∈ U
/-- a class comes by a symbol to U as a whole, or not at all -/
def StabC (d : D) (cls : List Int) (x : Int) (U : List Int) (c : Int) : Prop := ∀ s t, inR d s → inR d t → gI cls s.toNat = c → gI cls t.toNat = c → d.step s x ∈ U → d.step t x ∈ U
def StabAll (d : D) (cls : List Int) (x : Int) (U : List Int) : Prop := ∀ s t, inR d s → inR d t → gI cls s.toNat = gI cls t.toNat → d.step s x ∈ U → d.step t x ∈ U
def Finer (d : D) (cls' cls : List Int) : Prop := ∀ s t, inR d s → inR d t → gI cls' s.toNat = gI cls' t.toNat → gI cls s.toNat = gI cls t.toNat
theorem StabAll.finer {d : D} {cls cls' : List Int} {x : Int} {U : List Int} (h : StabAll d cls x U) (hf : Finer d cls' cls) : StabAll d cls' x U := fun s t hs ht e => h s t hs ht (hf s t hs ht e)
theorem gM_app_left {M X : List (List Int)} {c : Nat} (h : c < M.length) : gM (M ++ X) c = gM M c := by
  unfold gM
  rw [List.getD_eq_getElem?_getD, List.getElem?_append_left h, List.getD_eq_getElem?_getD]
theorem gM_last (M : List (List Int)) (l : List Int) : gM (M ++ [l]) M.length = l := by
  unfold gM
  rw [List.getD_eq_getElem?_getD, List.getElem?_append_right (Nat.le_refl _)]; simp
theorem gM_set_same {M : List (List Int)} {c : Nat} {l : List Int} (h : c < M.length) : gM (M.set c l) c = l := by
  unfold gM
  rw [List.getD_eq_getElem?_getD, List.getElem?_set_self h]; rfl
theorem gM_set_ne {M : List (List Int)} {c c' : Nat} {l : List Int} (h : c ≠ c') : gM (M.set c l) c' = gM M c' := by
  unfold gM
  rw [List.getD_eq_getElem?_getD, List.getElem?_set_ne h, List.getD_eq_getElem?_getD]
/-- what is left of a class -/
def restM (cls' : List Int) (next : Int) (m : List Int) : List Int := m.filter fun t => decide (gI cls' t.toNat ≠ next)
def splitM (cls' : List Int) (M : List (List Int)) (c : Nat) (l : List Int) : List (List Int) := M.set c (restM cls' M.length (gM M c)) ++ [l]
section
variable {d : D} {cls : List Int} {M : List (List Int)}
theorem Part.fits (h : Part d cls M) : M.length ≤ d.A.length + 1 := by
  obtain ⟨e, he, hne⟩ := h.ne
  have h2 := h.two
  have hd : ∀ c, c < M.length → c ≠ e → ∃ s, s ∈ gM M c := fun c hc hce => by
    cases hg : gM M c with
    | nil => exact absurd hg (hne c hc hce)
    | cons s l => exact ⟨s, by simp⟩
  have hrep : ∀ c, c < M.length → c ≠ e → inR d ((gM M c).headD 0) ∧ gI cls ((gM M c).headD 0).toNat = c := fun c hc hce => by
    refine (h.mem c hc _).1 ?_
    cases hg : gM M c with
    | nil => exact absurd hg (hne c hc hce)
    | cons s l => simp
  have h3 := nodup_lt d.A.length (((List.range M.length).erase e).map fun c => ((gM M c).headD 0).toNat) (by
    rw [List.Nodup, List.pairwise_map]
    refine List.Pairwise.imp_of_mem ?_ (List.nodup_range.erase e)
    intro a b ha hb hab e2
    obtain ⟨ha1, ha2⟩ := List.nodup_range.mem_erase_iff.1 ha
    obtain ⟨hb1, hb2⟩ := List.nodup_range.mem_erase_iff.1 hb
    have r1 := (hrep a (List.mem_range.1 ha2) ha1).2
    have r2 := (hrep b (List.mem_range.1 hb2) hb1).2
    rw [e2, r2] at r1
    exact hab (by omega)) (by
    intro t ht
    obtain ⟨a, ha, rfl⟩ := List.mem_map.1 ht
    obtain ⟨ha1, ha2⟩ := List.nodup_range.mem_erase_iff.1 ha
    have r1 := (hrep a (List.mem_range.1 ha2) ha1).1
    unfold inR at r1
    omega)
  rw [List.length_map, List.length_erase_of_mem (List.mem_range.2 (by omega)), List.length_range] at h3
  omega
theorem nodup_sub_len {l m : List Int} (h : l.Nodup) (hs : ∀ x ∈ l, x ∈ m) : l.length ≤ m.length := by
  induction l generalizing m with
  | nil => simp
  | cons x l ih =>
    have hx := hs x (by simp)
    have hnd := List.nodup_cons.1 h
    have h1 := ih hnd.2 (m := m.erase x) fun y hy => by
      have hne : y ≠ x := fun e => by subst e; exact hnd.1 hy
      exact (List.mem_erase_of_ne hne).2 (hs y (by simp [hy]))
    rw [List.length_erase_of_mem hx] at h1
    have : 0 < m.length := List.length_pos_of_mem hx
    simp only [List.length_cons]
    omega
theorem nodup_sub_eq {l m : List Int} (h : l.Nodup) (hs : ∀ x ∈ l, x ∈ m) (hl : m.length ≤ l.length) : ∀ x ∈ m, x ∈ l := by
  intro x hx
  by_cases e : x ∈ l
  · exact e
  · exfalso
    have := nodup_sub_len (l := x :: l) (m := m) (List.nodup_cons.2 ⟨e, h⟩) (fun y hy => by
      rcases List.mem_cons.1 hy with rfl | hy
      · exact hx
      · exact hs y hy)
    simp only [List.length_cons] at this
    omega
/-- a class is split -/
theorem Part.split (h : Part d cls M) {c : Nat} {l : List Int} (hc : c < M.length) (hl : ∀ s ∈ l, s ∈ gM M c) (hnd : l.Nodup) (h0 : l ≠ []) (hlt : l.length ≠ (gM M c).length) (hsat : Satd d l) :
    Part d (setAll cls l M.length) (splitM (setAll cls l M.length) M c l) ∧ Finer d (setAll cls l M.length) cls ∧
    (∀ s, inR d s → (gI (setAll cls l M.length) s.toNat = if s ∈ l then (M.length : Int) else gI cls s.toNat)) ∧ SameSet (restM (setAll cls l M.length) M.length (gM M c)) ((gM M c).filter fun t => decide (t ∉ l)) := by
  have hpos : ∀ t ∈ l, 0 ≤ t := fun t ht => ((h.mem c hc t).1 (hl t ht)).1.1
  have hat : ∀ s, inR d s → (gI (setAll cls l M.length) s.toNat = if s ∈ l then (M.length : Int) else gI cls s.toNat) := fun s hs =>
    setAll_in _ l cls s hs.1 (by have := hs.1; have := hs.2; have := h.len; omega) hpos
  have hin : ∀ t ∈ l, inR d t ∧ gI cls t.toNat = c := fun t ht => (h.mem c hc t).1 (hl t ht)
  have hrest : ∀ s, s ∈ restM (setAll cls l M.length) M.length (gM M c) ↔ (s ∈ gM M c ∧ s ∉ l) := by
    intro s
    unfold restM
    rw [List.mem_filter]
    constructor
    · rintro ⟨h1, h2⟩
      refine ⟨h1, fun hm => ?_⟩
      have := of_decide_eq_true h2
      rw [hat s (hin s hm).1, if_pos hm] at this
      exact this rfl
    · rintro ⟨h1, h2⟩
      have hs := (h.mem c hc s).1 h1
      refine ⟨h1, decide_eq_true ?_⟩
      rw [hat s hs.1, if_neg h2, hs.2]
      omega
  have hll := nodup_sub_len hnd hl
  have hfin : Finer d (setAll cls l M.length) cls := by
    intro s t hs ht e
    rw [hat s hs, hat t ht] at e
    have rs := h.rng s hs
    have rt := h.rng t ht
    by_cases e1 : s ∈ l
    · by_cases e2 : t ∈ l
      · rw [(hin s e1).2, (hin t e2).2]
      · rw [if_pos e1, if_neg e2] at e; omega
    · by_cases e2 : t ∈ l
      · rw [if_neg e1, if_pos e2] at e; omega
      · rw [if_neg e1, if_neg e2] at e; exact e
  have hml : (splitM (setAll cls l M.length) M c l).length = M.length + 1 := by simp [splitM]
  have hm1 : ∀ c', c' < M.length → c' ≠ c → gM (splitM (setAll cls l M.length) M c l) c' = gM M c' := fun c' hc' hne => by
    unfold splitM
    rw [gM_app_left (by simpa using hc'), gM_set_ne (Ne.symm hne)]
  have hm2 : gM (splitM (setAll cls l M.length) M c l) c = restM (setAll cls l M.length) M.length (gM M c) := by
    unfold splitM
    rw [gM_app_left (by simpa using hc), gM_set_same hc]
  have hm3 : gM (splitM (setAll cls l M.length) M c l) M.length = l := by
    unfold splitM
    have : M.length = (M.set c (restM (setAll cls l M.length) M.length (gM M c))).length := by simp
    conv => lhs; arg 2; rw [this]
    exact gM_last _ _
  refine ⟨⟨by rw [setAll_len]; exact h.len, ?_, ?_, ?_, ?_, ?_, ?_, by rw [hml]; have := h.two; omega⟩, hfin, hat, fun s => by rw [hrest, List.mem_filter]; simp⟩
  · intro s hs
    rw [hat s hs, hml]
    have := h.rng s hs
    split <;> omega
  · intro c' hc' s
    rw [hml] at hc'
    by_cases e1 : c' = M.length
    · subst e1
      rw [hm3]
      constructor
      · intro hs
        exact ⟨(hin s hs).1, by rw [hat s (hin s hs).1, if_pos hs]⟩
      · rintro ⟨hs, e⟩
        rw [hat s hs] at e
        by_cases e2 : s ∈ l
        · exact e2
        · rw [if_neg e2] at e
          have := h.rng s hs
          omega
    · by_cases e2 : c' = c
      · subst e2
        rw [hm2, hrest, h.mem c' hc]
        constructor
        · rintro ⟨⟨hs, e⟩, hn⟩
          exact ⟨hs, by rw [hat s hs, if_neg hn]; exact e⟩
        · rintro ⟨hs, e⟩
          rw [hat s hs] at e
          by_cases e3 : s ∈ l
          · rw [if_pos e3] at e; omega
          · rw [if_neg e3] at e; exact ⟨⟨hs, e⟩, e3⟩
      · rw [hm1 c' (by omega) e2, h.mem c' (by omega)]
        constructor
        · rintro ⟨hs, e⟩
          refine ⟨hs, ?_⟩
          rw [hat s hs, if_neg (fun hm => e2 (by have := (hin s hm).2; omega))]
          exact e
        · rintro ⟨hs, e⟩
          rw [hat s hs] at e
          by_cases e3 : s ∈ l
          · rw [if_pos e3] at e; omega
          · rw [if_neg e3] at e; exact ⟨hs, e⟩
  · intro c' hc'
    rw [hml] at hc'
    by_cases e1 : c' = M.length
    · subst e1; rw [hm3]; exact hnd
    · by_cases e2 : c' = c
      · subst e2
        rw [hm2]
        exact (h.nd c' hc).filter _
      · rw [hm1 c' (by omega) e2]; exact h.nd c' (by omega)
  · intro s t hs ht hl'
    have := h.sat s t hs ht hl'
    rw [hat s hs, hat t ht]
    by_cases e1 : s ∈ l
    · rw [if_pos e1, if_pos (hsat s t hs ht hl' e1)]
    · rw [if_neg e1, if_neg (fun e2 => e1 (hsat t s ht hs (hl'.symm rfl) e2))]
      exact this
  · intro s t hs ht e
    exact h.accs s t hs ht (hfin s t hs ht e)
  · obtain ⟨e, he, hne⟩ := h.ne
    refine ⟨e, he, fun c' hc' hce => ?_⟩
    rw [hml] at hc'
    by_cases e1 : c' = M.length
    · subst e1; rw [hm3]; exact h0
    · by_cases e2 : c' = c
      · subst e2
        rw [hm2]
        intro hnil
        refine hlt (Nat.le_antisymm hll ?_)
        refine nodup_sub_len (h.nd c' hc) fun s hs => ?_
        by_cases e3 : s ∈ l
        · exact e3
        · have := (hrest s).2 ⟨hs, e3⟩
          rw [hnil] at this
          simp at this
      · rw [hm1 c' (by omega) e2]; exact hne c' (by omega) hce
/-- what is left to do, and what is done -/
structure Work (d : D) (cls : List Int) (M T : List (List Int)) (pend : List Int → Prop) : Prop where
  part : Part d cls M
  tsat : ∀ U ∈ T, Satd d U ∧ U.Nodup ∧ ∀ s ∈ U, inR d s
  done : ∀ c, c < M.length → (∃ U ∈ T, SameSet U (gM M c)) ∨ pend (gM M c) ∨ ∀ x, 0 ≤ x ∧ x < d.K → StabAll d cls x (gM M c)
theorem Work.stable (h : Work d cls M [] (fun _ => False)) (hd : d.Ok) : Cong d (fun s t => gI cls s.toNat = gI cls t.toNat) where
  refl := fun _ _ => rfl
  symm := fun _ _ h => h.symm
  trans := fun _ _ _ h h' => h.trans h'
  acc := fun s t hs ht e => h.part.accs s t hs ht e
  step := fun s t x hs ht hx e => by
    have hs' : inR d (d.step s x) := hd.step_lt hs hx
    have rs := h.part.rng _ hs'
    have hc : (gI cls (d.step s x).toNat).toNat < M.length := by omega
    have h1 := h.done _ hc
    have hst : StabAll d cls x (gM M (gI cls (d.step s x).toNat).toNat) := by
      rcases h1 with ⟨U, hU, _⟩ | h1 | h1
      · simp at hU
      · exact h1.elim
      · exact h1 x hx
    have hm : d.step s x ∈ gM M (gI cls (d.step s x).toNat).toNat := (h.part.mem _ hc _).2 ⟨hs', by omega⟩
    have := ((h.part.mem _ hc _).1 (hst s t hs ht e hm)).2
    omega
theorem Work.full (h : Work d cls M [] (fun _ => False)) : ∀ s t : Int, (0 ≤ s ∧ s < d.A.length) → (0 ≤ t ∧ t < d.A.length) → LangEq d s d t → gI cls s.toNat = gI cls t.toNat := h.part.sat
theorem Work.pop {T : List (List Int)} {U : List Int} (h : Work d cls M (T ++ [U]) (fun _ => False)) : Work d cls M T (SameSet U) where
  part := h.part
  tsat := fun V hV => h.tsat V (by simp [hV])
  done := fun c hc => by
    rcases h.done c hc with ⟨V, hV, e⟩ | h1 | h1
    · rcases List.mem_append.1 hV with hV | hV
      · exact .inl ⟨V, hV, e⟩
      · rw [List.mem_singleton.1 hV] at e; exact .inr (.inl e)
    · exact h1.elim
    · exact .inr (.inr h1)
theorem StabAll.same {x : Int} {U V : List Int} (h : StabAll d cls x U) (e : SameSet U V) : StabAll d cls x V := fun s t hs ht es hm => (e _).1 (h s t hs ht es ((e _).2 hm))
theorem Work.over {T : List (List Int)} {U : List Int} (h : Work d cls M T (SameSet U)) (hs : ∀ x, 0 ≤ x ∧ x < d.K → StabAll d cls x U) : Work d cls M T (fun _ => False) where
  part := h.part
  tsat := h.tsat
  done := fun c hc => by
    rcases h.done c hc with h1 | h1 | h1
    · exact .inl h1
    · exact .inr (.inr fun x hx => (hs x hx).same h1)
    · exact .inr (.inr h1)
/-- the states of a class from which U is come to -/
structure HitOk (d : D) (cls U : List Int) (x : Int) (c : Int) (l : List Int) : Prop where
  mem : ∀ s, s ∈ l ↔ (inR d s ∧ gI cls s.toNat = c ∧ d.step s x ∈ U)
  nd : l.Nodup
/-- some classes are still to be looked at -/
structure Splits (d : D) (cls : List Int) (M T : List (List Int)) (U : List Int) (x : Int) (R : List (Int × List Int)) : Prop where
  work : Work d cls M T (SameSet U)
  usat : Satd d U
  before : ∀ y, 0 ≤ y ∧ y < x → StabAll d cls y U
  keys : (R.map Prod.fst).Nodup
  rng : ∀ p ∈ R, 0 ≤ p.1 ∧ p.1 < M.length
  hit : ∀ p ∈ R, HitOk d cls U x p.1 p.2
  rest : ∀ c : Int, 0 ≤ c ∧ c < M.length → c ∉ R.map Prod.fst → StabC d cls x U c
theorem LangEq.satd {U : List Int} {x c : Int} {l : List Int} (hd : d.Ok) (hx : 0 ≤ x ∧ x < d.K) (hp : Part d cls M) (hU : Satd d U) (h : HitOk d cls U x c l) : Satd d l := by
  intro s t hs ht hl hm
  obtain ⟨h1, h2, h3⟩ := (h.mem s).1 hm
  exact (h.mem t).2 ⟨ht, by rw [← hp.sat s t hs ht hl]; exact h2, hU _ _ (hd.step_lt hs hx) (hd.step_lt ht hx) (hl.step hx) h3⟩
/-- the class is hit as a whole -/
theorem Splits.skip {T : List (List Int)} {U : List Int} {x c : Int} {l : List Int} {R : List (Int × List Int)} (h : Splits d cls M T U x ((c, l) :: R)) (hl : l.length = (gM M c.toNat).length) : Splits d cls M T U x R where
  work := h.work
  usat := h.usat
  before := h.before
  keys := (List.nodup_cons.1 h.keys).2
  rng := fun p hp => h.rng p (by simp [hp])
  hit := fun p hp => h.hit p (by simp [hp])
  rest := fun c' hc' hn => by
    by_cases e : c' = c
    · subst e
      have hh := h.hit (c', l) (by simp)
      have hcl : c'.toNat < M.length := by omega
      have hall := nodup_sub_eq hh.nd (m := gM M c'.toNat) (fun s hs => by
        obtain ⟨h1, h2, _⟩ := (hh.mem s).1 hs
        exact (h.work.part.mem _ hcl s).2 ⟨h1, by simp only at h2; omega⟩) (Nat.le_of_eq hl.symm)
      intro s t hs ht e1 e2 _
      exact ((hh.mem t).1 (hall t ((h.work.part.mem _ hcl t).2 ⟨ht, by omega⟩))).2.2
    · exact h.rest c' hc' (by simp only [List.map_cons, List.mem_cons, not_or]; exact ⟨e, hn⟩)
/-- the class is split -/
theorem Splits.cut {T : List (List Int)} {U : List Int} {x c : Int} {l : List Int} {R : List (Int × List Int)} (h : Splits d cls M T U x ((c, l) :: R)) (hd : d.Ok) (hx : 0 ≤ x ∧ x < d.K) (h0 : l ≠ []) (hl : l.length ≠ (gM M c.toNat).length) :
    Splits d (setAll cls l M.length) (splitM (setAll cls l M.length) M c.toNat l) (T ++ [l, restM (setAll cls l M.length) M.length (gM M c.toNat)]) U x R := by
  have hc := h.rng (c, l) (by simp)
  simp only at hc
  have hcl : c.toNat < M.length := by omega
  have hh := h.hit (c, l) (by simp)
  have hp := h.work.part
  have hlsat := LangEq.satd hd hx hp h.usat hh
  have hlm : ∀ s ∈ l, s ∈ gM M c.toNat := fun s hs => by
    obtain ⟨h1, h2, _⟩ := (hh.mem s).1 hs
    exact (hp.mem _ hcl s).2 ⟨h1, by simp only at h2; omega⟩
  obtain ⟨hp', hf, hat, hrs⟩ := hp.split hcl hlm hh.nd h0 hl hlsat
  have hml : (splitM (setAll cls l M.length) M c.toNat l).length = M.length + 1 := by simp [splitM]
  have hm1 : ∀ c', c' < M.length → c' ≠ c.toNat → gM (splitM (setAll cls l M.length) M c.toNat l) c' = gM M c' := fun c' hc' hne => by
    unfold splitM
    rw [gM_app_left (by simpa using hc'), gM_set_ne (Ne.symm hne)]
  have hm2 : gM (splitM (setAll cls l M.length) M c.toNat l) c.toNat = restM (setAll cls l M.length) M.length (gM M c.toNat) := by
    unfold splitM
    rw [gM_app_left (by simpa using hcl), gM_set_same hcl]
  have hm3 : gM (splitM (setAll cls l M.length) M c.toNat l) M.length = l := by
    unfold splitM
    have : M.length = (M.set c.toNat (restM (setAll cls l M.length) M.length (gM M c.toNat))).length := by simp
    conv => lhs; arg 2; rw [this]
    exact gM_last _ _
  have hnk := (List.nodup_cons.1 h.keys)
  have hcls : ∀ s, inR d s → ∀ c' : Int, c' < M.length → c' ≠ c → (gI (setAll cls l M.length) s.toNat = c' ↔ gI cls s.toNat = c') := by
    intro s hs c' hc' hne
    rw [hat s hs]
    by_cases e : s ∈ l
    · rw [if_pos e]
      have := ((hh.mem s).1 e).2.1
      simp only at this
      constructor
      · intro e2; omega
      · intro e2; omega
    · rw [if_neg e]
  refine ⟨⟨hp', ?_, ?_⟩, h.usat, fun y hy => (h.before y hy).finer hf, hnk.2, fun p hp => by have := h.rng p (by simp [hp]); rw [hml]; omega, ?_, ?_⟩
  · intro V hV
    rcases List.mem_append.1 hV with hV | hV
    · exact h.work.tsat V hV
    · rcases List.mem_cons.1 hV with rfl | hV
      · exact ⟨hlsat, hh.nd, fun s hs => ((hh.mem s).1 hs).1⟩
      · rw [List.mem_singleton.1 hV]
        refine ⟨?_, (hp.nd _ hcl).filter _, fun s hs => ?_⟩
        · intro s t hs ht hle hm
          rw [hrs, List.mem_filter] at hm ⊢
          refine ⟨(hp.mem _ hcl t).2 ⟨ht, by rw [← hp.sat s t hs ht hle]; exact ((hp.mem _ hcl s).1 hm.1).2⟩, decide_eq_true fun hm2 => ?_⟩
          exact of_decide_eq_true hm.2 (hlsat t s ht hs (hle.symm rfl) hm2)
        · rw [hrs, List.mem_filter] at hs
          exact ((hp.mem _ hcl s).1 hs.1).1
  · intro c' hc'
    rw [hml] at hc'
    by_cases e1 : c' = M.length
    · subst e1
      rw [hm3]
      exact .inl ⟨l, by simp, fun _ => Iff.rfl⟩
    · by_cases e2 : c' = c.toNat
      · subst e2
        rw [hm2]
        exact .inl ⟨_, by simp, fun _ => Iff.rfl⟩
      · rw [hm1 c' (by omega) e2]
        rcases h.work.done c' (by omega) with ⟨V, hV, e⟩ | h1 | h1
        · exact .inl ⟨V, by simp [hV], e⟩
        · exact .inr (.inl h1)
        · exact .inr (.inr fun x hx => (h1 x hx).finer hf)
  · intro p hp'
    have hk := h.hit p (by simp [hp'])
    have hr := h.rng p (by simp [hp'])
    have hne : p.1 ≠ c := fun e => hnk.1 (by rw [← e]; exact List.mem_map.2 ⟨p, hp', rfl⟩)
    refine ⟨fun s => ?_, hk.nd⟩
    rw [hk.mem]
    constructor
    · rintro ⟨h1, h2, h3⟩; exact ⟨h1, (hcls s h1 _ hr.2 hne).2 h2, h3⟩
    · rintro ⟨h1, h2, h3⟩; exact ⟨h1, (hcls s h1 _ hr.2 hne).1 h2, h3⟩
  · intro c' hc' hn
    rw [hml] at hc'
    by_cases e1 : c' = M.length
    · subst e1
      intro s t hs ht _ e2 _
      rw [hat t ht] at e2
      by_cases e3 : t ∈ l
      · exact ((hh.mem t).1 e3).2.2
      · rw [if_neg e3] at e2
        have := hp.rng t ht
        omega
    · by_cases e2 : c' = c
      · subst e2
        intro s t hs ht e3 _ hm
        exfalso
        rw [hat s hs] at e3
        by_cases e4 : s ∈ l
        · rw [if_pos e4] at e3; omega
        · rw [if_neg e4] at e3
          exact e4 ((hh.mem s).2 ⟨hs, e3, hm⟩)
      · intro s t hs ht e3 e4 hm
        exact h.rest c' (by omega) (by simp only [List.map_cons, List.mem_cons, not_or]; exact ⟨e2, hn⟩) s t hs ht ((hcls s hs c' (by omega) e2).1 e3) ((hcls t ht c' (by omega) e2).1 e4) hm
/-- all are looked at -/
theorem Splits.end_ {T : List (List Int)} {U : List Int} {x : Int} (h : Splits d cls M T U x []) : Work d cls M T (SameSet U) ∧ ∀ y, 0 ≤ y ∧ y < x + 1 → StabAll d cls y U := by
  refine ⟨h.work, fun y hy => ?_⟩
  by_cases e : y < x
  · exact h.before y ⟨hy.1, e⟩
  · have e2 : y = x := by omega
    subst e2
    intro s t hs ht es hm
    have := h.work.part.rng s hs
    exact h.rest _ this (by simp) s t hs ht rfl es.symm hm
end
end Go.Proofs.Ytmpcoclgcldclaa
namespace Go.Proofs.Ytmpcoclgcldclaa
section
variable {d : D} {cls : List Int} {M T : List (List Int)} {U : List Int} {x : Int}
/-- the classes may be looked at in any order -/
theorem Splits.perm {R R' : List (Int × List Int)} (h : Splits d cls M T U x R) (hp : R.Perm R') : Splits d cls M T U x R' where
  work := h.work
  usat := h.usat
  before := h.before
  keys := (hp.map Prod.fst).nodup_iff.1 h.keys
  rng := fun p hp' => h.rng p (hp.mem_iff.2 hp')
  hit := fun p hp' => h.hit p (hp.mem_iff.2 hp')
  rest := fun c hc hn => h.rest c hc fun hm => hn ((hp.map Prod.fst).mem_iff.1 hm)
/-- of these states those of class c -/
def hitsOf (cls Pr : List Int) (c : Int) : List Int := Pr.filter fun s => decide (gI cls s.toNat = c)
theorem hitsOf_nil (cls : List Int) (c : Int) : hitsOf cls [] c = [] := rfl
theorem hitsOf_snoc (cls Pr : List Int) (s c : Int) : hitsOf cls (Pr ++ [s]) c = if c = gI cls s.toNat then hitsOf cls Pr c ++ [s] else hitsOf cls Pr c := by
  unfold hitsOf
  rw [List.filter_append]
  by_cases h : c = gI cls s.toNat
  · rw [if_pos h]; simp [h]
  · rw [if_neg h]
    have : decide (gI cls s.toNat = c) = false := decide_eq_false fun e => h e.symm
    simp [this]
theorem hitsOf_mem {cls Pr : List Int} {s c : Int} : s ∈ hitsOf cls Pr c ↔ s ∈ Pr ∧ gI cls s.toNat = c := by
  unfold hitsOf
  rw [List.mem_filter]
  simp
/-- the classes that are hit -/
def hitKeys (cls Pr : List Int) : List Int := (Pr.map fun s => gI cls s.toNat).eraseDups
/-- each once, with its states -/
def hitsL (cls Pr : List Int) : List (Int × List Int) := (hitKeys cls Pr).map fun c => (c, hitsOf cls Pr c)
theorem hitKeys_mem {cls Pr : List Int} {c : Int} : c ∈ hitKeys cls Pr ↔ hitsOf cls Pr c ≠ [] := by
  unfold hitKeys
  rw [List.mem_eraseDups, List.mem_map]
  constructor
  · rintro ⟨s, hs, e⟩ hn
    have : s ∈ hitsOf cls Pr c := hitsOf_mem.2 ⟨hs, e⟩
    rw [hn] at this
    simp at this
  · intro hn
    cases hh : hitsOf cls Pr c with
    | nil => exact absurd hh hn
    | cons s l =>
      have := hitsOf_mem.1 (show s ∈ hitsOf cls Pr c by rw [hh]; simp)
      exact ⟨s, this.1, this.2⟩
theorem hitsL_keys (cls Pr : List Int) : (hitsL cls Pr).map Prod.fst = hitKeys cls Pr := by
  unfold hitsL
  rw [List.map_map]
  exact List.map_id _
theorem nodup_eraseDups : ∀ (n : Nat) (l : List Int), l.length ≤ n → l.eraseDups.Nodup
  | 0, l, h => by
    have : l = [] := List.eq_nil_of_length_eq_zero (by omega)
    subst this
    simp
  | n + 1, [], _ => by simp
  | n + 1, a :: l, h => by
    rw [List.eraseDups_cons]
    refine List.nodup_cons.2 ⟨?_, nodup_eraseDups n _ ?_⟩
    · rw [List.mem_eraseDups, List.mem_filter]
      simp
    · have := List.length_filter_le (fun b => !b == a) l
      simp only [List.length_cons] at h
      omega
/-- all from which U is come to by x have been gathered -/
structure Gath (d : D) (U : List Int) (x : Int) (Pr : List Int) : Prop where
  mem : ∀ s, s ∈ Pr ↔ (inR d s ∧ d.step s x ∈ U)
  nd : Pr.Nodup
theorem Splits.begin_ {Pr : List Int} (hw : Work d cls M T (SameSet U)) (hU : Satd d U) (hb : ∀ y, 0 ≤ y ∧ y < x → StabAll d cls y U) (hg : Gath d U x Pr) : Splits d cls M T U x (hitsL cls Pr) where
  work := hw
  usat := hU
  before := hb
  keys := by rw [hitsL_keys]; exact nodup_eraseDups _ _ (Nat.le_refl _)
  rng := fun p hp => by
    obtain ⟨c, hc, rfl⟩ := List.mem_map.1 hp
    cases hh : hitsOf cls Pr c with
    | nil => exact absurd hh (hitKeys_mem.1 hc)
    | cons s l =>
      have h1 := hitsOf_mem.1 (show s ∈ hitsOf cls Pr c by rw [hh]; simp)
      have h2 := hw.part.rng s ((hg.mem s).1 h1.1).1
      show 0 ≤ c ∧ c < M.length
      omega
  hit := fun p hp => by
    obtain ⟨c, hc, rfl⟩ := List.mem_map.1 hp
    refine ⟨fun s => ?_, hg.nd.filter _⟩
    show s ∈ hitsOf cls Pr c ↔ _
    rw [hitsOf_mem, hg.mem]
    constructor
    · rintro ⟨⟨h1, h2⟩, h3⟩; exact ⟨h1, h3, h2⟩
    · rintro ⟨h1, h3, h2⟩; exact ⟨⟨h1, h2⟩, h3⟩
  rest := fun c hc hn s t hs ht e1 e2 hm => by
    rw [hitsL_keys] at hn
    exfalso
    refine hn (hitKeys_mem.2 fun e => ?_)
    have : s ∈ hitsOf cls Pr c := hitsOf_mem.2 ⟨(hg.mem s).2 ⟨hs, hm⟩, e1⟩
    rw [e] at this
    simp at this
/-- of all states below f those from which t is come to by y -/
def backN (d : D) (f : Nat) (t y : Int) : List Int := ((List.range f).filter fun (s : Nat) => decide (d.step (s : Int) y = t)).map fun (s : Nat) => (s : Int)
theorem backN_mem {f : Nat} {t y s : Int} : s ∈ backN d f t y ↔ (0 ≤ s ∧ s < f) ∧ d.step s y = t := by
  unfold backN
  rw [List.mem_map]
  constructor
  · rintro ⟨a, ha, rfl⟩
    rw [List.mem_filter, List.mem_range] at ha
    exact ⟨⟨by omega, by omega⟩, of_decide_eq_true ha.2⟩
  · rintro ⟨⟨h1, h2⟩, h3⟩
    refine ⟨s.toNat, ?_, Int.toNat_of_nonneg h1⟩
    rw [List.mem_filter, List.mem_range, Int.toNat_of_nonneg h1]
    exact ⟨by omega, decide_eq_true h3⟩
theorem backN_nodup (d : D) (f : Nat) (t y : Int) : (backN d f t y).Nodup := by
  unfold backN
  rw [List.Nodup, List.pairwise_map]
  exact (List.nodup_range.filter _).imp fun h e => h (by omega)
theorem backN_succ (d : D) (f : Nat) (t y : Int) : backN d (f + 1) t y = if d.step (f : Int) y = t then backN d f t y ++ [(f : Int)] else backN d f t y := by
  unfold backN
  rw [List.range_succ, List.filter_append, List.map_append]
  by_cases h : d.step (f : Int) y = t
  · rw [if_pos h]; simp [h]
  · rw [if_neg h]; simp [h]
/-- what is gathered of the first i of U -/
def gath (d : D) (x : Int) (U : List Int) : List Int := U.flatMap fun t => backN d d.A.length t x
theorem gath_snoc (d : D) (x : Int) (U : List Int) (t : Int) : gath d x (U ++ [t]) = gath d x U ++ backN d d.A.length t x := by simp [gath]
theorem gath_len {d : D} {x : Int} : ∀ (U : List Int), U.Nodup → (gath d x U).Nodup
  | [], _ => by simp [gath]
  | t :: U, h => by
    obtain ⟨h1, h2⟩ := List.nodup_cons.1 h
    show (backN d d.A.length t x ++ gath d x U).Nodup
    rw [List.nodup_append]
    refine ⟨backN_nodup _ _ _ _, gath_len U h2, fun a ha b hb e => ?_⟩
    subst e
    obtain ⟨u, hu, hau⟩ := List.mem_flatMap.1 hb
    have e1 := (backN_mem.1 ha).2
    have e2 := (backN_mem.1 hau).2
    rw [e1] at e2
    exact h1 (e2 ▸ hu)
theorem gath_ok (h : U.Nodup) : Gath d U x (gath d x U) where
  mem := fun s => by
    unfold gath
    rw [List.mem_flatMap]
    constructor
    · rintro ⟨t, ht, hs⟩
      obtain ⟨h1, h2⟩ := backN_mem.1 hs
      exact ⟨h1, h2 ▸ ht⟩
    · rintro ⟨h1, h2⟩
      exact ⟨_, h2, backN_mem.2 ⟨h1, rfl⟩⟩
  nd := gath_len U h
/-- what has been gathered is no more than there are states -/
theorem gath_le {d : D} {x : Int} {U : List Int} (h : U.Nodup) : (gath d x U).length ≤ d.A.length := by
  have h2 := nodup_lt d.A.length ((gath d x U).map Int.toNat) (by
    rw [List.Nodup, List.pairwise_map]
    refine List.Pairwise.imp_of_mem ?_ (gath_len (d := d) (x := x) U h)
    intro a b ha hb hne e
    have := (((gath_ok (d := d) (x := x) h).mem a).1 ha).1
    have := (((gath_ok (d := d) (x := x) h).mem b).1 hb).1
    unfold inR at *
    omega) (by
    intro t ht
    obtain ⟨a, ha, rfl⟩ := List.mem_map.1 ht
    have := (((gath_ok (d := d) (x := x) h).mem a).1 ha).1
    unfold inR at this
    omega)
  simpa using h2
/-- all states below f that accept as b says -/
def accN (d : D) (f : Nat) (b : Bool) : List Int := ((List.range f).filter fun (s : Nat) => d.acc (s : Int) == b).map fun (s : Nat) => (s : Int)
theorem accN_mem {f : Nat} {b : Bool} {s : Int} : s ∈ accN d f b ↔ (0 ≤ s ∧ s < f) ∧ d.acc s = b := by
  unfold accN
  rw [List.mem_map]
  constructor
  · rintro ⟨a, ha, rfl⟩
    rw [List.mem_filter, List.mem_range] at ha
    exact ⟨⟨by omega, by omega⟩, by simpa using ha.2⟩
  · rintro ⟨⟨h1, h2⟩, h3⟩
    refine ⟨s.toNat, ?_, Int.toNat_of_nonneg h1⟩
    rw [List.mem_filter, List.mem_range, Int.toNat_of_nonneg h1]
    exact ⟨by omega, by simpa using h3⟩
theorem accN_nodup (d : D) (f : Nat) (b : Bool) : (accN d f b).Nodup := by
  unfold accN
  rw [List.Nodup, List.pairwise_map]
  exact (List.nodup_range.filter _).imp fun h e => h (by omega)
theorem accN_succ (d : D) (f : Nat) (b : Bool) : accN d (f + 1) b = if d.acc (f : Int) = b then accN d f b ++ [(f : Int)] else accN d f b := by
  unfold accN
  rw [List.range_succ, List.filter_append, List.map_append]
  by_cases h : d.acc (f : Int) = b
  · rw [if_pos h]; simp [h]
  · rw [if_neg h]; simp [h]
theorem accN_len (d : D) (f : Nat) (b : Bool) : (accN d f b).length ≤ f := by
  unfold accN
  rw [List.length_map]
  have := List.length_filter_le (fun (s : Nat) => d.acc (s : Int) == b) (List.range f)
  rwa [List.length_range] at this
/-- the classes at the start: those that accept, and the others -/
def accCls (d : D) (f : Nat) : List Int := (List.range d.A.length).map fun (s : Nat) => if s < f ∧ d.acc (s : Int) = true then 1 else 0
theorem accCls_len (d : D) (f : Nat) : (accCls d f).length = d.A.length := by simp [accCls]
theorem accCls_at {f : Nat} {s : Nat} (hs : s < d.A.length) : gI (accCls d f) s = if s < f ∧ d.acc (s : Int) = true then 1 else 0 := by
  unfold gI accCls
  rw [List.getD_eq_getElem?_getD, List.getElem?_map, List.getElem?_range hs]
  rfl
theorem accCls_succ {f : Nat} : accCls d (f + 1) = if d.acc (f : Int) = true then (accCls d f).set f 1 else accCls d f := by
  refine List.ext_getElem (by split <;> simp [accCls]) fun i h1 h2 => ?_
  have hi : i < d.A.length := by simpa [accCls] using h1
  have e1 : (accCls d (f + 1))[i] = if i < f + 1 ∧ d.acc (i : Int) = true then 1 else 0 := by simp [accCls]
  have e2 : ∀ h, (accCls d f)[i]'h = if i < f ∧ d.acc (i : Int) = true then 1 else 0 := fun _ => by simp [accCls]
  rw [e1]
  by_cases ha : d.acc (f : Int) = true
  · simp only [ha, if_true, List.getElem_set]
    by_cases e : f = i
    · subst e
      rw [if_pos ⟨by omega, ha⟩, if_pos rfl]
    · rw [if_neg e, e2]
      by_cases e3 : i < f
      · simp [e3, Nat.lt_succ_of_lt e3]
      · rw [if_neg (fun h => e3 (by omega)), if_neg (fun h => e3 h.1)]
  · simp only [ha, if_false, Bool.false_eq_true]
    rw [e2]
    by_cases e : f = i
    · subst e
      rw [if_neg (fun h => ha h.2), if_neg (fun h => ha h.2)]
    · by_cases e3 : i < f
      · simp [e3, Nat.lt_succ_of_lt e3]
      · rw [if_neg (fun h => e3 (by omega)), if_neg (fun h => e3 h.1)]
theorem accCls_all {s : Int} (hs : inR d s) : gI (accCls d d.A.length) s.toNat = if d.acc s = true then 1 else 0 := by
  unfold inR at hs
  rw [accCls_at (by omega), Int.toNat_of_nonneg hs.1]
  by_cases h : d.acc s = true
  · rw [if_pos h, if_pos ⟨by omega, h⟩]
  · rw [if_neg h, if_neg fun e => h e.2]
def accM (d : D) (f : Nat) : List (List Int) := [accN d f false, accN d f true]
theorem accM_at {c : Nat} (f : Nat) (hc : c < 2) : gM (accM d f) c = accN d f (decide (c = 1)) := by
  rcases (show c = 0 ∨ c = 1 by omega) with rfl | rfl <;> rfl
/-- what prepared makes -/
theorem Work.begin_ (hd : d.Ok) : Work d (accCls d d.A.length) (accM d d.A.length) (accM d d.A.length) (fun _ => False) where
  part := {
    len := accCls_len _ _
    rng := fun s hs => by rw [accCls_all hs]; show _ ∧ _ < ((2 : Nat) : Int); split <;> omega
    mem := fun c hc s => by
      have hc2 : c < 2 := hc
      rw [accM_at _ hc2, accN_mem]
      constructor
      · rintro ⟨h1, h2⟩
        refine ⟨h1, ?_⟩
        rw [accCls_all h1, h2]
        rcases (show c = 0 ∨ c = 1 by omega) with rfl | rfl <;> simp
      · rintro ⟨h1, h2⟩
        refine ⟨h1, ?_⟩
        rw [accCls_all h1] at h2
        rcases (show c = 0 ∨ c = 1 by omega) with rfl | rfl
        · cases hb : d.acc s
          · rfl
          · rw [hb] at h2; simp at h2
        · cases hb : d.acc s
          · rw [hb] at h2; simp at h2
          · rfl
    nd := fun c hc => by
      have hc2 : c < 2 := hc
      rw [accM_at _ hc2]; exact accN_nodup _ _ _
    sat := fun s t hs ht hl => by
      rw [accCls_all hs, accCls_all ht, show d.acc s = d.acc t from hl [] rfl]
    accs := fun s t hs ht e => by
      rw [accCls_all hs, accCls_all ht] at e
      cases h1 : d.acc s <;> cases h2 : d.acc t <;> simp [h1, h2] at e ⊢
    ne := by
      -- one of the two may be empty
      by_cases h0 : accN d d.A.length false = []
      · refine ⟨0, by omega, fun c hc hne => ?_⟩
        have hc2 : c < 2 := hc
        have hc1 : c = 1 := by omega
        subst hc1
        intro e
        have e1 : accN d d.A.length true = [] := e
        have hpos := hd.2.2.1
        cases hb : d.acc 0
        · have : (0 : Int) ∈ accN d d.A.length false := accN_mem.2 ⟨⟨by omega, by omega⟩, hb⟩
          rw [h0] at this
          simp at this
        · have : (0 : Int) ∈ accN d d.A.length true := accN_mem.2 ⟨⟨by omega, by omega⟩, hb⟩
          rw [e1] at this
          simp at this
      · refine ⟨1, by omega, fun c hc hne => ?_⟩
        have hc2 : c < 2 := hc
        have hc1 : c = 0 := by omega
        subst hc1
        exact h0
    two := Nat.le_refl _ }
  tsat := fun U hU => by
    have key : ∀ b, Satd d (accN d d.A.length b) ∧ (accN d d.A.length b).Nodup ∧ ∀ s ∈ accN d d.A.length b, inR d s := fun b =>
      ⟨fun s t hs ht hl hm => accN_mem.2 ⟨ht, by rw [← (accN_mem.1 hm).2]; exact (hl [] rfl).symm⟩, accN_nodup _ _ _, fun s hs => (accN_mem.1 hs).1⟩
    rcases List.mem_cons.1 hU with rfl | hU
    · exact key _
    · rw [List.mem_singleton.1 hU]; exact key _
  done := fun c hc => .inl ⟨gM (accM d d.A.length) c, by
    have hc2 : c < 2 := hc
    rcases (show c = 0 ∨ c = 1 by omega) with rfl | rfl
    · exact List.mem_cons_self ..
    · exact List.mem_cons_of_mem _ (List.mem_cons_self ..), fun _ => Iff.rfl⟩
end
/-- as much is left to be done -/
def leftN (d : D) (M T : List (List Int)) : Nat := 2 * (d.A.length + 1 - M.length) + T.length
end Go.Proofs.Ytmpcoclgcldclaa
namespace Go.Proofs.Ytmpcoclgcldclaa
section
variable {α : Type} {d : D} {f x : Nat} {B : List (α × List Int)} {M : List (α × List Int)}
/-- the table of what comes to a state by a symbol: states below f, of f the first x symbols -/
structure BackIn (d : D) (f x : Nat) (B : List (α × List Int)) : Prop where
  len : B.length = d.A.length * d.K.toNat
  ent : ∀ t y : Int, inR d t → 0 ≤ y ∧ y < d.K → ∃ v, B[(t * d.K + y).toNat]? = some (v, backN d (if y < (x : Int) then f + 1 else f) t y)
theorem BackIn.init (v : α) : BackIn d 0 0 (List.replicate (d.A.length * d.K.toNat) (v, [])) where
  len := by simp
  ent := fun t y ht hy => by
    have hlt : (t * d.K + y).toNat < d.A.length * d.K.toNat := by
      unfold inR at ht
      obtain ⟨k, hk⟩ := Int.eq_ofNat_of_zero_le (show 0 ≤ d.K by omega)
      rw [hk] at hy ⊢
      have := step_idx ht hy
      rw [Int.toNat_natCast]
      have h2 : ((d.A.length : Int) * (k : Int)) = ((d.A.length * k : Nat) : Int) := by simp
      omega
    refine ⟨v, ?_⟩
    rw [List.getElem?_replicate_of_lt hlt, if_neg (by omega)]
    rfl
theorem BackIn.next (h : BackIn d f x B) (hx : d.K ≤ (x : Int)) : BackIn d (f + 1) 0 B where
  len := h.len
  ent := fun t y ht hy => by
    obtain ⟨v, hv⟩ := h.ent t y ht hy
    refine ⟨v, ?_⟩
    rw [hv, if_pos (by omega), if_neg (by omega)]
theorem ix_inj (_hd : d.Ok) {t t' y y' : Int} (ht : inR d t) (ht' : inR d t') (hy : 0 ≤ y ∧ y < d.K) (hy' : 0 ≤ y' ∧ y' < d.K) (e : (t * d.K + y).toNat = (t' * d.K + y').toNat) : t = t' ∧ y = y' := by
  obtain ⟨k, hk⟩ := Int.eq_ofNat_of_zero_le (show 0 ≤ d.K by omega)
  obtain ⟨a, rfl⟩ := Int.eq_ofNat_of_zero_le ht.1
  obtain ⟨b, rfl⟩ := Int.eq_ofNat_of_zero_le ht'.1
  obtain ⟨p, rfl⟩ := Int.eq_ofNat_of_zero_le hy.1
  obtain ⟨q, rfl⟩ := Int.eq_ofNat_of_zero_le hy'.1
  rw [hk] at e hy hy'
  rw [show (a : Int) * (k : Int) + (p : Int) = ((a * k + p : Nat) : Int) by simp, show (b : Int) * (k : Int) + (q : Int) = ((b * k + q : Nat) : Int) by simp, Int.toNat_natCast, Int.toNat_natCast] at e
  have := row_inj (by omega) (by omega) e
  omega
theorem BackIn.add (h : BackIn d f x B) (hd : d.Ok) (hf : f < d.A.length) (hx : (x : Int) < d.K) :
    ∃ v, B[(d.step (f : Int) (x : Int) * d.K + (x : Int)).toNat]? = some (v, backN d f (d.step (f : Int) (x : Int)) (x : Int)) ∧
      ∀ v' : α, BackIn d f (x + 1) (B.set (d.step (f : Int) (x : Int) * d.K + (x : Int)).toNat (v', backN d f (d.step (f : Int) (x : Int)) (x : Int) ++ [(f : Int)])) := by
  have hfr : inR d (f : Int) := ⟨by omega, by omega⟩
  have hxr : 0 ≤ (x : Int) ∧ (x : Int) < d.K := ⟨by omega, hx⟩
  have hst : inR d (d.step (f : Int) (x : Int)) := hd.step_lt hfr hxr
  obtain ⟨v, hv⟩ := h.ent _ _ hst hxr
  rw [if_neg (by omega)] at hv
  refine ⟨v, hv, fun v' => ⟨by rw [List.length_set]; exact h.len, fun t y ht hy => ?_⟩⟩
  have hlt := (List.getElem?_eq_some_iff.1 hv).1
  by_cases e : t = d.step (f : Int) (x : Int) ∧ y = (x : Int)
  · obtain ⟨rfl, rfl⟩ := e
    refine ⟨v', ?_⟩
    rw [List.getElem?_set_self hlt, if_pos (by omega), backN_succ, if_pos rfl]
  · obtain ⟨u, hu⟩ := h.ent t y ht hy
    refine ⟨u, ?_⟩
    rw [List.getElem?_set_ne (fun e2 => e (by have := ix_inj hd hst ht hxr hy e2; exact ⟨this.1.symm, this.2.symm⟩)), hu]
    by_cases e3 : y = (x : Int)
    · subst e3
      have hne : ¬ d.step (f : Int) (x : Int) = t := fun e4 => e ⟨e4.symm, rfl⟩
      rw [if_neg (by omega), if_pos (by omega), backN_succ, if_neg hne]
    · by_cases e4 : y < (x : Int)
      · rw [if_pos e4, if_pos (by omega)]
      · rw [if_neg e4, if_neg (by omega)]
/-- the classes' states: those below f -/
theorem accM_put {c : Nat} {v v' : α} {l : List Int} (h : M.map Prod.snd = accM d f) (hc : c = (if d.acc (f : Int) = true then 1 else 0)) (hM : M[c]? = some (v, l)) :
    l = accN d f (d.acc (f : Int)) ∧ (M.set c (v', l ++ [(f : Int)])).map Prod.snd = accM d (f + 1) := by
  have h1 : (M.map Prod.snd)[c]? = some l := by rw [List.getElem?_map, hM]; rfl
  rw [h] at h1
  rw [List.map_set, h]
  unfold accM at h1 ⊢
  rw [accN_succ, accN_succ]
  cases ha : d.acc (f : Int)
  · rw [ha] at hc
    simp only [Bool.false_eq_true, if_false] at hc
    subst hc
    obtain rfl := Option.some.inj h1
    exact ⟨rfl, by simp⟩
  · rw [ha] at hc
    simp only [if_true] at hc
    subst hc
    obtain rfl := Option.some.inj h1
    exact ⟨rfl, by simp⟩
theorem BackIn.all (h : BackIn d f 0 B) (hf : f = d.A.length) : B.length = d.A.length * d.K.toNat ∧ ∀ t y : Int, inR d t → 0 ≤ y ∧ y < d.K → ∃ v, B[(t * d.K + y).toNat]? = some (v, backN d d.A.length t y) := by
  subst hf
  refine ⟨h.len, fun t y ht hy => ?_⟩
  obtain ⟨v, hv⟩ := h.ent t y ht hy
  rw [if_neg (by omega)] at hv
  exact ⟨v, hv⟩
end
end Go.Proofs.Ytmpcoclgcldclaa
namespace Go.Proofs.Ytmpcoclgcldclaa
def uAt (out : List Bool) (p : Nat) : Bool := out.getD p false
theorem uAt_set_same {out : List Bool} {p : Nat} {v : Bool} (h : p < out.length) : uAt (out.set p v) p = v := by
  unfold uAt; rw [List.getD_eq_getElem?_getD, List.getElem?_set_self h]; rfl
theorem uAt_set_ne {out : List Bool} {p q : Nat} {v : Bool} (h : p ≠ q) : uAt (out.set p v) q = uAt out q := by
  unfold uAt; rw [List.getD_eq_getElem?_getD, List.getElem?_set_ne h, List.getD_eq_getElem?_getD]
/-- the place of a pair -/
def pq (n : Nat) (s t : Int) : Nat := s.toNat * n + t.toNat
theorem pq_lt {n : Nat} {s t : Int} (hs : 0 ≤ s ∧ s < n) (ht : 0 ≤ t ∧ t < n) : pq n s t < n * n := by
  unfold pq
  have h1 : (s.toNat + 1) * n ≤ n * n := Nat.mul_le_mul_right _ (by omega)
  rw [Nat.succ_mul] at h1
  omega
theorem pq_inj {n : Nat} {s t s' t' : Int} (hs : 0 ≤ s) (hs' : 0 ≤ s') (ht : 0 ≤ t ∧ t < n) (ht' : 0 ≤ t' ∧ t' < n) (h : pq n s t = pq n s' t') : s = s' ∧ t = t' := by
  unfold pq at h
  obtain ⟨h1, h2⟩ := row_inj (k := n) (by omega) (by omega) h
  omega
/-- some step tells the two apart -/
def apart (d : D) (out : List Bool) (s t : Int) (k : Int) : Bool := decide (d.acc s ≠ d.acc t) || (List.range k.toNat).any fun (x : Nat) => uAt out (pq d.A.length (d.step s (x : Int)) (d.step t (x : Int)))
theorem apart_zero (d : D) (out : List Bool) (s t : Int) : apart d out s t 0 = decide (d.acc s ≠ d.acc t) := by simp [apart]
theorem apart_succ (d : D) (out : List Bool) (s t : Int) (x : Nat) : apart d out s t ((x : Int) + 1) = (apart d out s t x || uAt out (pq d.A.length (d.step s (x : Int)) (d.step t (x : Int)))) := by
  unfold apart
  rw [show ((x : Int) + 1).toNat = x + 1 by omega, Int.toNat_natCast, List.range_succ, List.any_append]
  simp [Bool.or_assoc]
structure USound (d : D) (out : List Bool) : Prop where
  len : out.length = d.A.length * d.A.length
  sound : ∀ s t, inR d s → inR d t → uAt out (pq d.A.length s t) = true → ¬ LangEq d s d t
section
variable {d : D} {out : List Bool}
theorem USound.init (d : D) : USound d (List.replicate (d.A.length * d.A.length) false) := ⟨by simp, fun s t _ _ h => by
  unfold uAt at h
  rw [List.getD_eq_getElem?_getD, List.getElem?_replicate] at h
  split at h <;> simp at h⟩
theorem USound.mark (h : USound d out) (hd : d.Ok) {s t : Int} (hs : inR d s) (ht : inR d t) (ha : apart d out s t d.K = true) : USound d (out.set (pq d.A.length s t) true) := by
  refine ⟨by rw [List.length_set]; exact h.len, fun s' t' hs' ht' hu => ?_⟩
  by_cases e : pq d.A.length s t = pq d.A.length s' t'
  · obtain ⟨rfl, rfl⟩ := pq_inj hs.1 hs'.1 ht ht' e
    intro hl
    unfold apart at ha
    rw [Bool.or_eq_true] at ha
    rcases ha with ha | ha
    · exact of_decide_eq_true ha (hl [] rfl)
    · obtain ⟨x, hx, hux⟩ := List.any_eq_true.1 ha
      have hx' := List.mem_range.1 hx
      have hxr : 0 ≤ (x : Int) ∧ (x : Int) < d.K := by omega
      exact h.sound _ _ (hd.step_lt hs hxr) (hd.step_lt ht hxr) hux (hl.step hxr)
  · rw [uAt_set_ne e] at hu
    exact h.sound s' t' hs' ht' hu
/-- the first p pairs are marked as far as they should be -/
def Closed (d : D) (out : List Bool) (p : Nat) : Prop := ∀ s t, inR d s → inR d t → pq d.A.length s t < p → apart d out s t d.K = true → uAt out (pq d.A.length s t) = true
theorem Closed.pass {s t : Int} (h : Closed d out (pq d.A.length s t)) (hs : inR d s) (ht : inR d t) (hm : apart d out s t d.K = true → uAt out (pq d.A.length s t) = true) : Closed d out (pq d.A.length s t + 1) := by
  intro s' t' hs' ht' hlt ha
  by_cases e : pq d.A.length s' t' = pq d.A.length s t
  · obtain ⟨rfl, rfl⟩ := pq_inj hs'.1 hs.1 ht' ht e
    exact hm ha
  · exact h s' t' hs' ht' (by omega) ha
theorem USound.all (h : USound d out) (hd : d.Ok) (hc : Closed d out (d.A.length * d.A.length)) : ∀ s t, inR d s → inR d t → (uAt out (pq d.A.length s t) = true ↔ ¬ LangEq d s d t) := by
  have key : ∀ (u : List Int) (s t : Int), inR d s → inR d t → symsB d.K u = true → uAt out (pq d.A.length s t) = false → d.acc (d.run s u) = d.acc (d.run t u) := by
    intro u
    induction u with
    | nil =>
      intro s t hs ht _ hu
      have ha : apart d out s t d.K = false := by
        rcases hb : apart d out s t d.K with _ | _
        · rfl
        · have := hc s t hs ht (pq_lt hs ht) hb
          rw [hu] at this
          cases this
      unfold apart at ha
      rw [Bool.or_eq_false_iff] at ha
      exact Decidable.not_not.1 (of_decide_eq_false ha.1)
    | cons x u ih =>
      intro s t hs ht hsy hu
      have hsy' := symsB_iff.1 hsy
      have hx := hsy' x (by simp)
      have ha : apart d out s t d.K = false := by
        rcases hb : apart d out s t d.K with _ | _
        · rfl
        · have := hc s t hs ht (pq_lt hs ht) hb
          rw [hu] at this
          cases this
      unfold apart at ha
      rw [Bool.or_eq_false_iff] at ha
      have h2 := List.any_eq_false.1 ha.2 x.toNat (List.mem_range.2 (by omega))
      rw [Int.toNat_of_nonneg hx.1] at h2
      exact ih _ _ (hd.step_lt hs hx) (hd.step_lt ht hx) (symsB_iff.2 fun y hy => hsy' y (by simp [hy])) (by simpa using h2)
  intro s t hs ht
  constructor
  · exact h.sound s t hs ht
  · intro hn
    rcases hb : uAt out (pq d.A.length s t) with _ | _
    · exact absurd (fun u hu => key u s t hs ht hu hb) hn
    · rfl
end
theorem LangEq.cong (d : D) : Cong d (fun s t => LangEq d s d t) where
  refl := fun _ _ _ _ => rfl
  symm := fun _ _ h => h.symm rfl
  trans := fun _ _ _ h h' => h.trans h' rfl
  acc := fun _ _ _ _ h => h [] rfl
  step := fun _ _ _ _ _ hx h => h.step hx
theorem count_set_true : ∀ {out : List Bool} {p : Nat}, out[p]? = some false → (out.set p true).count false + 1 = out.count false
  | [], p, h => by simp at h
  | b :: out, 0, h => by
    have : b = false := by simpa using h
    subst this
    simp
  | b :: out, p + 1, h => by
    have ih := count_set_true (out := out) (p := p) (by simpa using h)
    simp only [List.set_cons_succ, List.count_cons]
    omega
/-- the one that the numbering by classes gives -/
theorem OInv.tight {d : D} {r : Int → Int → Prop} {L N : List Int} (h : OInv d r L N L.length 0) (hd : d.Ok) (hc : Cong d r) (hf : ∀ s t : Int, (0 ≤ s ∧ s < d.A.length) → (0 ≤ t ∧ t < d.A.length) → LangEq d s d t → r s t) : TightOf d (ordD d L N) where
  ok := h.ok hd hc.refl
  canon := h.canon
  sep := h.sep_ hd hc hf
  k := rfl
  lang := h.lang0 hd hc
  le := by
    have := h.le hc.refl
    simpa [ordD] using this
theorem TightOf.before {d c e : D} (h : TightOf c e) (hK : c.K = d.K) (hl : LangEq c c.S d d.S) (hle : c.A.length ≤ d.A.length) : TightOf d e where
  ok := h.ok
  canon := h.canon
  sep := h.sep
  k := h.k.trans hK
  lang := h.lang.trans hl h.k
  le := Nat.le_trans h.le hle
/-- how many words of a length are told from a state on -/
def cntN (d : D) : Nat → Int → Nat
  | 0, s => if d.acc s then 1 else 0
  | n + 1, s => ((List.range d.K.toNat).map fun (x : Nat) => cntN d n (d.step s (x : Int))).sum
theorem sum_le {f : Nat → Nat} {b : Nat} : ∀ (k : Nat), (∀ x, x < k → f x ≤ b) → ((List.range k).map f).sum ≤ k * b
  | 0, _ => by simp
  | k + 1, h => by
    have ih := sum_le k fun x hx => h x (by omega)
    have := h k (by omega)
    rw [List.range_succ, List.map_append, List.sum_append, Nat.succ_mul]
    simp
    omega
theorem sum_add {f g : Nat → Nat} : ∀ (k : Nat), ((List.range k).map fun x => f x + g x).sum = ((List.range k).map f).sum + ((List.range k).map g).sum
  | 0 => by simp
  | k + 1 => by
    have ih := sum_add (f := f) (g := g) k
    simp only [List.range_succ, List.map_append, List.sum_append, ih]
    simp
    omega
theorem cntN_le (d : D) : ∀ (n : Nat) (s : Int), cntN d n s ≤ d.K.toNat ^ n
  | 0, s => by simp only [cntN]; split <;> simp
  | n + 1, s => by
    simp only [cntN]
    rw [Nat.pow_succ, Nat.mul_comm]
    exact sum_le _ fun x _ => cntN_le d n _
/-- .. where two run side by side -/
def cnt2 (f : Bool → Bool → Bool) (a b : D) : Nat → Int → Int → Nat
  | 0, p, q => if f (a.acc p) (b.acc q) then 1 else 0
  | n + 1, p, q => ((List.range a.K.toNat).map fun (x : Nat) => cnt2 f a b n (a.step p (x : Int)) (b.step q (x : Int))).sum
theorem cnt2_prod {f : Bool → Bool → Bool} {a b d : D} {L : List (Int × Int)} (h : ProdOf f a b d L) : ∀ (n : Nat) (p : Int × Int), p ∈ L → cntN d n (plc L p) = cnt2 f a b n p.1 p.2
  | 0, p, hp => by simp only [cntN, cnt2]; rw [h.acc_at hp]
  | n + 1, p, hp => by
    simp only [cntN, cnt2]
    rw [h.k]
    congr 1
    refine List.map_congr_left fun x hx => ?_
    have hx' := List.mem_range.1 hx
    have hxr : 0 ≤ (x : Int) ∧ (x : Int) < a.K := by omega
    rw [h.step hp hxr]
    exact cnt2_prod h n _ (h.inv.closed hp hxr)
theorem cnt2_and_less (a b : D) : ∀ (n : Nat) (p q : Int), cnt2 (fun x y => x && y) a b n p q + cnt2 (fun x y => x && !y) a b n p q = cntN a n p
  | 0, p, q => by simp only [cntN, cnt2]; cases a.acc p <;> cases b.acc q <;> rfl
  | n + 1, p, q => by
    simp only [cntN, cnt2]
    rw [← sum_add]
    congr 1
    exact List.map_congr_left fun x _ => cnt2_and_less a b n _ _
theorem cnt2_snd (a b : D) (hK : a.K = b.K) : ∀ (n : Nat) (p q : Int), cnt2 (fun _ y => y) a b n p q = cntN b n q
  | 0, p, q => rfl
  | n + 1, p, q => by
    simp only [cntN, cnt2]
    rw [hK]
    congr 1
    exact List.map_congr_left fun x _ => cnt2_snd a b hK n _ _
theorem cnt2_fst (a b : D) : ∀ (n : Nat) (p q : Int), cnt2 (fun x _ => x) a b n p q = cntN a n p
  | 0, p, q => rfl
  | n + 1, p, q => by
    simp only [cntN, cnt2]
    congr 1
    exact List.map_congr_left fun x _ => cnt2_fst a b n _ _
theorem cnt2_or_and (a b : D) : ∀ (n : Nat) (p q : Int), cnt2 (fun x y => x || y) a b n p q + cnt2 (fun x y => x && y) a b n p q = cnt2 (fun x _ => x) a b n p q + cnt2 (fun _ y => y) a b n p q
  | 0, p, q => by simp only [cnt2]; cases a.acc p <;> cases b.acc q <;> rfl
  | n + 1, p, q => by
    simp only [cnt2]
    rw [← sum_add, ← sum_add]
    congr 1
    exact List.map_congr_left fun x _ => cnt2_or_and a b n _ _
end Go.Proofs.Ytmpcoclgcldclaa
namespace Go.Proofs.Ytmpcoclgcldclaa
/-- the pairs that are known, those that are to be gone through -/
structure AOut (f : Bool → Bool → Bool) (a b : D) (L T : List (Int × Int)) : Prop where
  nodup : L.Nodup
  start : (a.S, b.S) ∈ L
  reach : ∀ q ∈ L, Reached a b q
  todo : ∀ q ∈ T, q ∈ L
  le : T.length ≤ L.length
  done : ∀ q ∈ L, q ∈ T ∨ (f (a.acc q.1) (b.acc q.2) = true ∧ ∀ y : Int, 0 ≤ y ∧ y < a.K → stepP a b q y ∈ L)
/-- .. in the midst of p -/
structure AIn (f : Bool → Bool → Bool) (a b : D) (L T : List (Int × Int)) (p : Int × Int) (x : Nat) : Prop where
  nodup : L.Nodup
  start : (a.S, b.S) ∈ L
  reach : ∀ q ∈ L, Reached a b q
  todo : ∀ q ∈ T, q ∈ L
  le : T.length ≤ L.length
  mem : p ∈ L
  fine : f (a.acc p.1) (b.acc p.2) = true
  part : ∀ y : Int, 0 ≤ y ∧ y < x → stepP a b p y ∈ L
  done : ∀ q ∈ L, q ∈ T ∨ q = p ∨ (f (a.acc q.1) (b.acc q.2) = true ∧ ∀ y : Int, 0 ≤ y ∧ y < a.K → stepP a b q y ∈ L)
section
variable {f : Bool → Bool → Bool} {a b : D} {L T : List (Int × Int)} {p : Int × Int} {x : Nat}
theorem AOut.init (f : Bool → Bool → Bool) (a b : D) : AOut f a b [(a.S, b.S)] [(a.S, b.S)] :=
  ⟨by simp, by simp, fun q hq => by rw [List.mem_singleton.1 hq]; exact Reached.start a b, fun q hq => hq, Nat.le_refl _, fun q hq => .inl hq⟩
theorem AOut.open_ (h : AOut f a b L (T ++ [p])) (hf : f (a.acc p.1) (b.acc p.2) = true) : AIn f a b L T p 0 where
  nodup := h.nodup
  start := h.start
  reach := h.reach
  todo := fun q hq => h.todo q (by simp [hq])
  le := by have := h.le; simp at this; omega
  mem := h.todo p (by simp)
  fine := hf
  part := fun y hy => by omega
  done := fun q hq => by
    rcases h.done q hq with h1 | h1
    · rcases List.mem_append.1 h1 with h1 | h1
      · exact .inl h1
      · exact .inr (.inl (List.mem_singleton.1 h1))
    · exact .inr (.inr h1)
theorem AOut.no (h : AOut f a b L (T ++ [p])) (hf : f (a.acc p.1) (b.acc p.2) = false) : ¬ ∀ q, Reached a b q → f (a.acc q.1) (b.acc q.2) = true := fun hh => by
  have := hh p (h.reach p (h.todo p (by simp)))
  rw [hf] at this
  cases this
theorem AIn.close (h : AIn f a b L T p x) (hx : a.K ≤ x) : AOut f a b L T where
  nodup := h.nodup
  start := h.start
  reach := h.reach
  todo := h.todo
  le := h.le
  done := fun q hq => by
    rcases h.done q hq with h1 | h1 | h1
    · exact .inl h1
    · subst h1
      exact .inr ⟨h.fine, fun y hy => h.part y ⟨hy.1, by omega⟩⟩
    · exact .inr h1
theorem AIn.seen (h : AIn f a b L T p x) (hm : stepP a b p x ∈ L) : AIn f a b L T p (x + 1) where
  nodup := h.nodup
  start := h.start
  reach := h.reach
  todo := h.todo
  le := h.le
  mem := h.mem
  fine := h.fine
  part := fun y hy => by
    rcases Int.lt_or_le y x with h1 | h1
    · exact h.part y ⟨hy.1, h1⟩
    · have : y = x := by omega
      subst this
      exact hm
  done := h.done
theorem AIn.fresh (h : AIn f a b L T p x) (hx : (x : Int) < a.K) (hm : stepP a b p x ∉ L) : AIn f a b (L ++ [stepP a b p x]) (T ++ [stepP a b p x]) p (x + 1) where
  nodup := by
    rw [List.nodup_append]
    refine ⟨h.nodup, by simp, fun u hu v hv e => hm ?_⟩
    rw [List.mem_singleton.1 hv] at e
    exact e ▸ hu
  start := List.mem_append_left _ h.start
  reach := fun q hq => by
    rcases List.mem_append.1 hq with hq | hq
    · exact h.reach q hq
    · rw [List.mem_singleton.1 hq]
      exact (h.reach p h.mem).step ⟨by omega, hx⟩
  todo := fun q hq => by
    rcases List.mem_append.1 hq with hq | hq
    · exact List.mem_append_left _ (h.todo q hq)
    · exact List.mem_append_right _ hq
  le := by have := h.le; simp; omega
  mem := List.mem_append_left _ h.mem
  fine := h.fine
  part := fun y hy => by
    rcases Int.lt_or_le y x with h1 | h1
    · exact List.mem_append_left _ (h.part y ⟨hy.1, h1⟩)
    · have : y = x := by omega
      subst this
      simp
  done := fun q hq => by
    rcases List.mem_append.1 hq with hq | hq
    · rcases h.done q hq with h1 | h1 | ⟨h1, h2⟩
      · exact .inl (List.mem_append_left _ h1)
      · exact .inr (.inl h1)
      · exact .inr (.inr ⟨h1, fun y hy => List.mem_append_left _ (h2 y hy)⟩)
    · exact .inl (List.mem_append_right _ hq)
theorem AOut.len (h : AOut f a b L T) (ha : a.Ok) (hb : b.Ok) (hK : a.K = b.K) : L.length ≤ a.A.length * b.A.length :=
  nodup_pairs h.nodup fun q hq => (h.reach q hq).lt ha hb hK
theorem AIn.len (h : AIn f a b L T p x) (ha : a.Ok) (hb : b.Ok) (hK : a.K = b.K) : L.length ≤ a.A.length * b.A.length :=
  nodup_pairs h.nodup fun q hq => (h.reach q hq).lt ha hb hK
theorem AOut.all (h : AOut f a b L []) {q : Int × Int} (hq : Reached a b q) : f (a.acc q.1) (b.acc q.2) = true := by
  have hcl : ∀ q ∈ L, f (a.acc q.1) (b.acc q.2) = true ∧ ∀ y : Int, 0 ≤ y ∧ y < a.K → stepP a b q y ∈ L := fun q hq => by
    rcases h.done q hq with h1 | h1
    · simp at h1
    · exact h1
  have key : ∀ (n : Nat) (w : List Int), w.length = n → symsB a.K w = true → runP a b w ∈ L := by
    intro n
    induction n with
    | zero =>
      intro w hl _
      rw [List.eq_nil_of_length_eq_zero hl]
      exact h.start
    | succ n ih =>
      intro w hl hw
      have hne : w ≠ [] := by intro e; subst e; simp at hl
      obtain ⟨u, x, rfl⟩ : ∃ u x, w = u ++ [x] := ⟨w.dropLast, w.getLast hne, (List.dropLast_concat_getLast hne).symm⟩
      rw [symsB_snoc, Bool.and_eq_true] at hw
      rw [runP_snoc]
      exact (hcl _ (ih u (by simpa using hl) hw.1)).2 x (of_decide_eq_true hw.2)
  obtain ⟨w, hw, rfl⟩ := hq
  exact (hcl _ (key _ w rfl hw)).1
end
/-- do both of all pairs that are come to agree in this? -/
def AllP (f : Bool → Bool → Bool) (a b : D) : Prop := ∀ q, Reached a b q → f (a.acc q.1) (b.acc q.2) = true
theorem allP_like {a b : D} : AllP (fun x y => x == y) a b ↔ LikeP a b := by
  unfold AllP LikeP
  simp
theorem likeP_lang {a b : D} : LikeP a b ↔ LangEq a a.S b b.S := by
  constructor
  · intro h u hu
    exact h _ ⟨u, hu, rfl⟩
  · rintro h q ⟨u, hu, rfl⟩
    exact h u hu
/-- within -/
def InP (a b : D) : Prop := AllP (fun x y => y || !x) a b
theorem inP_iff {a b : D} : InP a b ↔ ∀ u, symsB a.K u = true → a.acc (a.run a.S u) = true → b.acc (b.run b.S u) = true := by
  constructor
  · intro h u hu ha
    have := h _ ⟨u, hu, rfl⟩
    simp only [runP] at this
    rw [ha] at this
    simpa using this
  · rintro h q ⟨u, hu, rfl⟩
    have := h u hu
    simp only [runP]
    cases h1 : a.acc (a.run a.S u)
    · simp
    · simp [this h1]
theorem likeP_in {a b : D} (hK : a.K = b.K) : LikeP a b ↔ InP a b ∧ InP b a := by
  rw [likeP_lang, inP_iff, inP_iff]
  constructor
  · intro h
    exact ⟨fun u hu ha => by rw [← h u hu]; exact ha, fun u hu hb => by rw [h u (by rw [hK]; exact hu)]; exact hb⟩
  · rintro ⟨h1, h2⟩ u hu
    have g1 := h1 u hu
    have g2 := h2 u (by rw [← hK]; exact hu)
    cases e1 : a.acc (a.run a.S u) <;> cases e2 : b.acc (b.run b.S u) <;> simp_all
/-- it tells nothing -/
def EmptyP (d : D) : Prop := ∀ u, symsB d.K u = true → d.acc (d.run d.S u) = false
/-- as far as 64 bits go -/
def sat (n : Nat) : Nat := min n 18446744073709551615
theorem sat_le (n : Nat) : sat n ≤ 18446744073709551615 := Nat.min_le_right _ _
theorem sat_add (a b : Nat) : min (sat a + sat b) 18446744073709551615 = sat (a + b) := by unfold sat; omega
theorem sat_small {n : Nat} (h : n ≤ 18446744073709551615) : sat n = n := by unfold sat; omega
/-- .. by the first x symbols alone -/
def cntX (d : D) (n : Nat) (s : Int) (x : Nat) : Nat := ((List.range x).map fun (y : Nat) => cntN d n (d.step s (y : Int))).sum
theorem cntX_zero (d : D) (n : Nat) (s : Int) : cntX d n s 0 = 0 := rfl
theorem cntX_succ (d : D) (n : Nat) (s : Int) (x : Nat) : cntX d n s (x + 1) = cntX d n s x + cntN d n (d.step s (x : Int)) := by
  unfold cntX
  rw [List.range_succ, List.map_append, List.sum_append]
  simp
theorem cntX_all (d : D) (n : Nat) (s : Int) : cntX d n s d.K.toNat = cntN d (n + 1) s := rfl
theorem cntX_le {d : D} {n : Nat} {s : Int} {x : Nat} (hx : x ≤ d.K.toNat) : cntX d n s x ≤ d.K.toNat ^ (n + 1) := by
  have h1 : cntX d n s x ≤ x * d.K.toNat ^ n := sum_le _ fun y _ => cntN_le d n _
  rw [Nat.pow_succ, Nat.mul_comm]
  exact Nat.le_trans h1 (Nat.mul_le_mul_right _ hx)
/-- the states stand elsewhere, and tell the same -/
structure TurnOf (d e : D) (π : Int → Int) : Prop where
  k : e.K = d.K
  s : e.S = π d.S
  rng : ∀ s, inR d s → inR e (π s)
  acc : ∀ s, inR d s → e.acc (π s) = d.acc s
  step : ∀ s x : Int, inR d s → 0 ≤ x ∧ x < d.K → e.step (π s) x = π (d.step s x)
theorem TurnOf.run {d e : D} {π : Int → Int} (h : TurnOf d e π) (hd : d.Ok) : ∀ (u : List Int) (s : Int), inR d s → symsB d.K u = true → e.run (π s) u = π (d.run s u)
  | [], _, _, _ => rfl
  | x :: u, s, hs, hu => by
    have hu' := symsB_iff.1 hu
    show e.run (e.step (π s) x) u = π (d.run (d.step s x) u)
    rw [h.step s x hs (hu' x (by simp))]
    exact h.run hd u _ (hd.step_lt hs (hu' x (by simp))) (symsB_iff.2 fun y hy => hu' y (by simp [hy]))
theorem TurnOf.lang {d e : D} {π : Int → Int} (h : TurnOf d e π) (hd : d.Ok) {s : Int} (hs : inR d s) : LangEq e (π s) d s := fun u hu => by
  rw [h.k] at hu
  rw [h.run hd u s hs hu]
  exact h.acc _ (hd.run_lt u hs hu)
theorem TurnOf.lang0 {d e : D} {π : Int → Int} (h : TurnOf d e π) (hd : d.Ok) : LangEq e e.S d d.S := by
  rw [h.s]
  exact h.lang hd ⟨hd.2.2.2.2.2.1, hd.2.2.2.2.2.2.1⟩
/-- t states on, and round -/
def turnI (n : Nat) (t s : Int) : Int := (s + t) % n
theorem turnI_rng {n : Nat} (hn : 0 < n) (t s : Int) : 0 ≤ turnI n t s ∧ turnI n t s < n := ⟨Int.emod_nonneg _ (by omega), Int.emod_lt_of_pos _ (by omega)⟩
theorem turnI_inj {n : Nat} {t s s' : Int} (hs : 0 ≤ s ∧ s < n) (hs' : 0 ≤ s' ∧ s' < n) (h : turnI n t s = turnI n t s') : s = s' := by
  unfold turnI at h
  have h1 := Int.emod_emod_of_dvd (s + t - t) (Int.dvd_refl (n : Int))
  have h2 : (s + t - t) % n = (s' + t - t) % n := by rw [Int.sub_emod, h, ← Int.sub_emod]
  rw [show s + t - t = s by omega, show s' + t - t = s' by omega, Int.emod_eq_of_lt hs.1 hs.2, Int.emod_eq_of_lt hs'.1 hs'.2] at h2
  exact h2
theorem turnI_back {n : Nat} (t : Int) {j : Int} (hj : 0 ≤ j ∧ j < n) : turnI n t ((j - t) % n) = j := by
  unfold turnI
  rw [Int.emod_add_emod, show j - t + t = j by omega, Int.emod_eq_of_lt hj.1 hj.2]
theorem turn_ok {d e : D} {t : Int} (hd : d.Ok) (h : TurnOf d e (turnI d.A.length t)) (hA : e.A.length = d.A.length) (hN : e.N.length = d.N.length) : e.Ok := by
  have hpos := hd.2.2.1
  have hS : inR d d.S := ⟨hd.2.2.2.2.2.1, hd.2.2.2.2.2.2.1⟩
  have hs := h.rng _ hS
  unfold inR at hs
  rw [← h.s] at hs
  refine ⟨by rw [h.k]; exact hd.1, by rw [h.k]; exact hd.2.1, by omega, by rw [hA]; exact hd.2.2.2.1, by rw [hN, hA, h.k]; exact hd.2.2.2.2.1, hs.1, hs.2, fun s hs => ?_⟩
  obtain ⟨p, hp, rfl⟩ := List.getElem_of_mem hs
  have k1 : 1 ≤ d.K.toNat := by have := hd.1; omega
  have hx : p % d.K.toNat < d.K.toNat := Nat.mod_lt _ (by omega)
  have hj : p / d.K.toNat < d.A.length := Nat.div_lt_of_lt_mul (by have := hd.nlen; rw [Nat.mul_comm]; omega)
  have hb := turnI_back (n := d.A.length) t (j := ((p / d.K.toNat : Nat) : Int)) ⟨Int.natCast_nonneg _, Int.ofNat_lt.2 hj⟩
  have hxr : 0 ≤ ((p % d.K.toNat : Nat) : Int) ∧ ((p % d.K.toNat : Nat) : Int) < d.K := ⟨Int.natCast_nonneg _, Int.lt_of_lt_of_le (Int.ofNat_lt.2 hx) (by omega)⟩
  have hr : inR d ((((p / d.K.toNat : Nat) : Int) - t) % (d.A.length : Int)) := ⟨Int.emod_nonneg _ (by omega), Int.emod_lt_of_pos _ (by omega)⟩
  have hst := h.step _ ((p % d.K.toNat : Nat) : Int) hr hxr
  rw [hb] at hst
  have e1 : e.step ((p / d.K.toNat : Nat) : Int) ((p % d.K.toNat : Nat) : Int) = e.N[p] := by
    unfold D.step
    obtain ⟨k, hk⟩ := Int.eq_ofNat_of_zero_le (show 0 ≤ d.K by have := hd.1; omega)
    rw [h.k, hk, Int.toNat_natCast]
    have e2 : ((p / k : Nat) : Int) * (k : Int) + ((p % k : Nat) : Int) = ((p / k * k + p % k : Nat) : Int) := by simp
    rw [e2, Int.toNat_natCast, Nat.div_add_mod', List.getD_eq_getElem?_getD, List.getElem?_eq_getElem hp]
    rfl
  rw [← e1, hst]
  exact h.rng _ (hd.step_lt hr hxr)
end Go.Proofs.Ytmpcoclgcldclaa
namespace Go.Proofs.Ytmpcoclgcldclaa
def exD : D := { K := 2, S := 1, N := [0, 0, 2, 0, 2, 2], A := [false, false, true] }
def exT : D := { K := 2, S := 0, N := [1, 2, 1, 1, 2, 2], A := [false, true, false] }
theorem exD_ok : exD.Ok := by decide
theorem ex3 {s : Int} (h : 0 ≤ s ∧ s < 3) : s = 0 ∨ s = 1 ∨ s = 2 := by omega
theorem exTurn : TurnOf exD exT (fun s => turnI 3 2 s) where
  k := rfl
  s := by decide
  rng := fun s hs => turnI_rng (by omega) _ _
  acc := fun s hs => by
    rcases ex3 (show 0 ≤ s ∧ s < 3 from hs) with rfl | rfl | rfl <;> decide
  step := fun s x hs hx => by
    have hx2 : x = 0 ∨ x = 1 := by have : (exD.K) = 2 := rfl; omega
    rcases ex3 (show 0 ≤ s ∧ s < 3 from hs) with rfl | rfl | rfl <;> rcases hx2 with rfl | rfl <;> decide
theorem exTight : TightOf exD exT where
  ok := by decide
  canon := ⟨rfl, by decide, fun t h0 h1 => by
    have h1' : t < 3 := h1
    rcases (show t = 1 ∨ t = 2 by omega) with rfl | rfl <;> decide⟩
  sep := fun s t hs ht h => by
    have h1 := h [] rfl
    have h2 := h [0] rfl
    rcases ex3 (show 0 ≤ s ∧ s < 3 from hs) with rfl | rfl | rfl <;> rcases ex3 (show 0 ≤ t ∧ t < 3 from ht) with rfl | rfl | rfl <;> first | rfl | (exfalso; revert h1 h2; decide)
  k := rfl
  lang := exTurn.lang0 exD_ok
  le := by decide
theorem exTight_len {x : D} (h : TightOf exD x) : x.A.length = 3 := by rw [h.uniq exTight rfl (fun _ _ => rfl)]; rfl
theorem exCount : cntN exD 3 exD.S = 4 := by decide
end Go.Proofs.Ytmpcoclgcldclaa
namespace Go.Proofs.Ytmpcoclgcldclaa
theorem TightOf.self {d x : D} (h : TightOf d x) : TightOf x x where
  ok := h.ok
  canon := h.canon
  sep := h.sep
  k := rfl
  lang := by rw [h.canon.s0]; exact fun _ _ => rfl
  le := Nat.le_refl _
theorem TightOf.again {d x z : D} (h : TightOf d x) (h' : TightOf x z) : x = z := h.self.uniq h' rfl (fun _ _ => rfl)
theorem TightOf.iff {a b x y : D} (h : TightOf a x) (h' : TightOf b y) (hK : a.K = b.K) : x = y ↔ LikeP a b := by
  rw [likeP_lang]
  constructor
  · rintro rfl
    exact (h.lang.symm h.k).trans h'.lang h.k.symm
  · intro hl
    exact h.uniq h' hK hl
theorem TightOf.tells {d x : D} (hd : d.Ok) (h : TightOf d x) (ws : List Int) : x.tells ws = d.tells ws := by
  unfold D.tells
  rw [D.right_true.2 hd, D.right_true.2 h.ok, h.k]
  cases hs : symsB d.K ws
  · rfl
  · have := h.lang ws (by rw [h.k]; exact hs)
    rw [h.canon.s0, this]
section
variable {f : Bool → Bool → Bool} {a b d d1 d2 d3 : D} {L L1 L2 L3 : List (Int × Int)}
theorem ProdOf.lang (h : ProdOf f a b d L) {u : List Int} (hu : symsB a.K u = true) : d.acc (d.run d.S u) = f (a.acc (a.run a.S u)) (b.acc (b.run b.S u)) := by
  have h1 := h.run u (a.S, b.S) (List.mem_of_getElem? h.inv.start) hu
  rw [plc_head h.inv.start] at h1
  rw [h.s, h1.1, h.acc_at h1.2]
theorem both_in_fst (h : ProdOf (fun x y => x && y) a b d L) : InP d a := by
  rw [inP_iff]
  intro u hu ha
  rw [h.lang (by rw [← h.k]; exact hu)] at ha
  simp at ha
  exact ha.1
theorem both_in_snd (h : ProdOf (fun x y => x && y) a b d L) : InP d b := by
  rw [inP_iff]
  intro u hu ha
  rw [h.lang (by rw [← h.k]; exact hu)] at ha
  simp at ha
  exact ha.2
theorem less_empty (h : ProdOf (fun x y => x && !y) a b d L) : EmptyP d ↔ InP a b := by
  rw [inP_iff]
  unfold EmptyP
  constructor
  · intro he u hu ha
    have h1 := he u (by rw [h.k]; exact hu)
    rw [h.lang hu, ha] at h1
    simpa using h1
  · intro hi u hu
    rw [h.k] at hu
    rw [h.lang hu]
    cases ha : a.acc (a.run a.S u)
    · rfl
    · rw [hi u hu ha]; rfl
theorem ProdOf.cnt (h : ProdOf f a b d L) (k : Nat) : cntN d k d.S = cnt2 f a b k a.S b.S := by
  have h1 := cnt2_prod h k _ (List.mem_of_getElem? h.inv.start)
  rw [plc_head h.inv.start] at h1
  rw [h.s]
  exact h1
theorem sums_plain (h1 : ProdOf (fun x y => x && y) a b d1 L1) (h2 : ProdOf (fun x y => x && !y) a b d2 L2) (h3 : ProdOf (fun x y => x || y) a b d3 L3) (hK : a.K = b.K) (k : Nat) :
    cntN d1 k d1.S + cntN d2 k d2.S = cntN a k a.S ∧ cntN d3 k d3.S + cntN d1 k d1.S = cntN a k a.S + cntN b k b.S := by
  rw [h1.cnt, h2.cnt, h3.cnt]
  refine ⟨cnt2_and_less a b k _ _, ?_⟩
  rw [cnt2_or_and, cnt2_fst, cnt2_snd a b hK]
theorem cnt_small {k : Nat} (hK : d.K ≤ 4) (hk : k < 20) (s : Int) : cntN d k s ≤ 274877906944 :=
  Nat.le_trans (cntN_le d k s) (Nat.le_trans (Nat.pow_le_pow_left (show d.K.toNat ≤ 4 by omega) k) (Nat.le_trans (Nat.pow_le_pow_right (by omega) (show k ≤ 19 by omega)) (by decide)))
end
section
variable {d : D} {cls L N : List Int}
/-- each state is a class of its own -/
def OwnC (d : D) (cls : List Int) : Prop := ∀ i : Nat, i < d.A.length → gI cls i = (i : Int)
theorem OwnC.eq (h : OwnC d cls) {s t : Int} (hs : 0 ≤ s ∧ s < d.A.length) (ht : 0 ≤ t ∧ t < d.A.length) (e : gI cls s.toNat = gI cls t.toNat) : s = t := by
  rw [h s.toNat (by omega), h t.toNat (by omega)] at e
  omega
theorem OwnC.cong (h : OwnC d cls) : Cong d (fun s t => gI cls s.toNat = gI cls t.toNat) where
  refl := fun _ _ => rfl
  symm := fun _ _ h => h.symm
  trans := fun _ _ _ h h' => h.trans h'
  acc := fun s t hs ht e => by rw [h.eq hs ht e]
  step := fun s t x hs ht hx e => by rw [h.eq hs ht e]
/-- the one whose states are come to, and its tight one -/
theorem tight_of (hd : d.Ok) (ho : OwnC d cls) (h : OInv d (fun s t => gI cls s.toNat = gI cls t.toNat) L N L.length 0) {cls2 L2 N2 : List Int} (h2 : OInv (ordD d L N) (fun s t => gI cls2 s.toNat = gI cls2 t.toNat) L2 N2 L2.length 0)
    (hc : Cong (ordD d L N) (fun s t => gI cls2 s.toNat = gI cls2 t.toNat)) (hf : ∀ s t : Int, (0 ≤ s ∧ s < (ordD d L N).A.length) → (0 ≤ t ∧ t < (ordD d L N).A.length) → LangEq (ordD d L N) s (ordD d L N) t → gI cls2 s.toNat = gI cls2 t.toNat) : TightOf d (ordD (ordD d L N) L2 N2) := by
  have hok := h.ok hd ho.cong.refl
  refine (h2.tight hok hc hf).before rfl (h.lang0 hd ho.cong) ?_
  have := h.le ho.cong.refl
  simpa [ordD] using this
/-- all numbers up to the greatest one are there -/
theorem canon_all {e : D} (hc : Canon e) : ∀ m, m ≤ e.N.length → ∀ v : Int, 1 ≤ v → v ≤ mxN (e.N.take m) → ∃ p, p < m ∧ e.N.getD p 0 = v
  | 0, _, v, h1, h2 => by
    have : mxN (e.N.take 0) = 0 := rfl
    omega
  | m + 1, hm, v, h1, h2 => by
    rw [take_snoc_getD (by omega), mxN_snoc] at h2
    by_cases h3 : v ≤ mxN (e.N.take m)
    · obtain ⟨p, hp, e1⟩ := canon_all hc m (by omega) v h1 h3
      exact ⟨p, by omega, e1⟩
    · have h4 := hc.grow m (by omega)
      exact ⟨m, by omega, by omega⟩
/-- all are come to -/
theorem canon_reach {e : D} (he : e.Ok) (hc : Canon e) (t : Nat) : t < e.A.length → ∃ u, symsB e.K u = true ∧ e.run 0 u = (t : Int) := by
  induction t using Nat.strongRecOn with
  | _ t ih =>
    intro ht
    by_cases h0 : t = 0
    · subst h0; exact ⟨[], rfl, rfl⟩
    · have h1 := hc.rows t (by omega) ht
      have hl := he.nlen
      have k1 : 1 ≤ e.K.toNat := by have := he.1; omega
      have h2 : t * e.K.toNat ≤ e.N.length := by rw [hl]; exact Nat.mul_le_mul_right _ (by omega)
      obtain ⟨p, hp, e1⟩ := canon_all hc _ h2 (t : Int) (by omega) h1
      have hj : p / e.K.toNat < t := Nat.div_lt_of_lt_mul (by rw [Nat.mul_comm]; exact hp)
      have hx : p % e.K.toNat < e.K.toNat := Nat.mod_lt _ (by omega)
      obtain ⟨u, hu, hr⟩ := ih _ hj (by omega)
      refine ⟨u ++ [((p % e.K.toNat : Nat) : Int)], ?_, ?_⟩
      · rw [symsB_snoc, hu]
        have h3 : 0 ≤ ((p % e.K.toNat : Nat) : Int) ∧ ((p % e.K.toNat : Nat) : Int) < e.K := ⟨Int.natCast_nonneg _, Int.lt_of_lt_of_le (Int.ofNat_lt.2 hx) (by omega)⟩
        simp only [h3.1, h3.2, and_self, decide_true, Bool.and_self]
      · rw [D.run_snoc, hr, step_at he, e1]
theorem empty_iff (hd : d.Ok) (ho : OwnC d cls) (h : OInv d (fun s t => gI cls s.toNat = gI cls t.toNat) L N L.length 0) : EmptyP d ↔ true ∉ L.map d.acc := by
  have hok := h.ok hd ho.cong.refl
  have hl := h.lang0 hd ho.cong
  constructor
  · intro he hm
    obtain ⟨t, ht, e⟩ := List.getElem_of_mem hm
    obtain ⟨u, hu, hr⟩ := canon_reach hok h.canon t ht
    have h1 := hl u hu
    rw [hr] at h1
    have h2 := he u hu
    rw [h2] at h1
    have h3 : (ordD d L N).acc (t : Int) = true := by
      show (L.map d.acc).getD _ _ = _
      rw [Int.toNat_natCast, List.getD_eq_getElem?_getD, List.getElem?_eq_getElem ht]
      exact e
    rw [h3] at h1
    cases h1
  · intro hn u hu
    have h1 := hl u hu
    rw [← h1]
    cases hb : (ordD d L N).acc ((ordD d L N).run 0 u)
    · rfl
    · exfalso
      refine hn ?_
      have h2 : (L.map d.acc).getD ((ordD d L N).run 0 u).toNat false = true := hb
      rw [List.getD_eq_getElem?_getD] at h2
      cases hg : (L.map d.acc)[((ordD d L N).run 0 u).toNat]? with
      | none => rw [hg] at h2; cases h2
      | some x =>
        rw [hg] at h2
        have : x = true := h2
        subst this
        exact List.mem_of_getElem? hg
end
theorem like_none {a : D} (k : Nat) (_hk : a.K = (k : Int)) : LikeP a (D.mk (k : Int) 0 (List.replicate k 0) [false]) ↔ EmptyP a := by
  rw [likeP_lang]
  unfold EmptyP LangEq
  constructor
  · intro h u hu
    rw [h u hu]
    exact noneD_tells_none k u
  · intro h u hu
    rw [h u hu]
    exact (noneD_tells_none k u).symm
end Go.Proofs.Ytmpcoclgcldclaa
