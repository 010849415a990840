/- Plain words of pairs that are come to, of Like, and of products: no program. -/
import Derived.Test.YtmpcoclgcldclaaP3
import Derived.Test.YtmpcoclgcldclaaW1
namespace Go.Proofs.Ytmpcoclgcldclaa
/-- what is known of the pairs in the midst of the search: all of the first i, and of the next one the first x symbols, have been gone through -/
structure PInv (a b : D) (L : List (Int × Int)) (i x : Nat) : Prop where
  nodup : L.Nodup
  start : L[0]? = some (a.S, b.S)
  reach : ∀ p ∈ L, Reached a b p
  done : ∀ j p, j < i → L[j]? = some p → ∀ y : Int, 0 ≤ y ∧ y < a.K → stepP a b p y ∈ L
  part : ∀ p, L[i]? = some p → ∀ y : Int, 0 ≤ y ∧ y < x → stepP a b p y ∈ L
theorem PInv.init (a b : D) : PInv a b [(a.S, b.S)] 0 0 :=
  ⟨by simp, rfl, fun p hp => by rw [List.mem_singleton.1 hp]; exact Reached.start a b, fun j p hj => absurd hj (by omega), fun p _ y hy => by omega⟩
theorem PInv.len {a b : D} {L : List (Int × Int)} {i x : Nat} (h : PInv a b L i x) (ha : a.Ok) (hb : b.Ok) (hK : a.K = b.K) : L.length ≤ a.A.length * b.A.length :=
  nodup_pairs h.nodup fun p hp => (h.reach p hp).lt ha hb hK
theorem PInv.next {a b : D} {L : List (Int × Int)} {i x : Nat} (h : PInv a b L i x) (hx : a.K ≤ x) : PInv a b L (i + 1) 0 :=
  ⟨h.nodup, h.start, h.reach, fun j p hj hp y hy => by
    rcases Nat.lt_or_ge j i with h1 | h1
    · exact h.done j p h1 hp y hy
    · have : j = i := by omega
      subst this
      exact h.part p hp y ⟨hy.1, by omega⟩, fun p _ y hy => by omega⟩
theorem PInv.seen {a b : D} {L : List (Int × Int)} {i x : Nat} {p : Int × Int} (h : PInv a b L i x) (hp : L[i]? = some p) (hm : stepP a b p x ∈ L) : PInv a b L i (x + 1) :=
  ⟨h.nodup, h.start, h.reach, h.done, fun q hq y hy => by
    rw [hp] at hq
    obtain rfl := Option.some.inj hq
    rcases Int.lt_or_le y x with h1 | h1
    · exact h.part p hp y ⟨hy.1, h1⟩
    · have : y = x := by omega
      subst this
      exact hm⟩
theorem PInv.fresh {a b : D} {L : List (Int × Int)} {i x : Nat} {p : Int × Int} (h : PInv a b L i x) (hp : L[i]? = some p) (hx : (x : Int) < a.K) (hm : stepP a b p x ∉ L) : PInv a b (L ++ [stepP a b p x]) i (x + 1) := by
  have hi : i < L.length := (List.getElem?_eq_some_iff.1 hp).1
  refine ⟨?_, ?_, ?_, ?_, ?_⟩
  · rw [List.nodup_append]
    refine ⟨h.nodup, by simp, fun u hu v hv e => hm ?_⟩
    rw [List.mem_singleton.1 hv] at e
    exact e ▸ hu
  · rw [List.getElem?_append_left (by omega)]; exact h.start
  · intro q hq
    rcases List.mem_append.1 hq with hq | hq
    · exact h.reach q hq
    · rw [List.mem_singleton.1 hq]
      exact (h.reach p (List.mem_of_getElem? hp)).step ⟨by omega, hx⟩
  · intro j q hj hq y hy
    rw [List.getElem?_append_left (by omega)] at hq
    exact List.mem_append_left _ (h.done j q hj hq y hy)
  · intro q hq y hy
    rw [List.getElem?_append_left hi, hp] at hq
    obtain rfl := Option.some.inj hq
    rcases Int.lt_or_le y x with h1 | h1
    · exact List.mem_append_left _ (h.part p hp y ⟨hy.1, h1⟩)
    · have : y = x := by omega
      subst this
      simp

/-- do they accept alike wherever both come together? -/
def LikeP (a b : D) : Prop := ∀ p, Reached a b p → a.acc p.1 = b.acc p.2
theorem PInv.all {a b : D} {L : List (Int × Int)} (h : PInv a b L L.length 0) {p : Int × Int} (hp : Reached a b p) : p ∈ L := by
  obtain ⟨w, hw, rfl⟩ := hp
  have key : ∀ (n : Nat) (w : List Int), w.length = n → symsB a.K w = true → runP a b w ∈ L := by
    intro n
    induction n with
    | zero =>
      intro w hl _
      rw [List.eq_nil_of_length_eq_zero hl]
      exact List.mem_of_getElem? h.start
    | succ n ih =>
      intro w hl hw
      have hne : w ≠ [] := by intro e; subst e; simp at hl
      obtain ⟨u, x, rfl⟩ : ∃ u x, w = u ++ [x] := ⟨w.dropLast, w.getLast hne, (List.dropLast_concat_getLast hne).symm⟩
      rw [symsB_snoc, Bool.and_eq_true] at hw
      have hu := ih u (by simpa using hl) hw.1
      rw [runP_snoc]
      obtain ⟨j, hj, e⟩ := List.getElem_of_mem hu
      exact h.done j _ hj (by rw [← e]; exact List.getElem?_eq_getElem hj) x (of_decide_eq_true hw.2)
  exact key _ w rfl hw

/-- the place of a pair -/
def plc (L : List (Int × Int)) (p : Int × Int) : Int := (L.idxOf p : Nat)
theorem plc_append {L M : List (Int × Int)} {p : Int × Int} (h : p ∈ L) : plc (L ++ M) p = plc L p := by
  unfold plc
  rw [List.idxOf_append, if_pos h]
theorem plc_new {L : List (Int × Int)} {p : Int × Int} (h : p ∉ L) : plc (L ++ [p]) p = (L.length : Nat) := by
  unfold plc
  rw [List.idxOf_append, if_neg h]
  simp
theorem plc_lt {L : List (Int × Int)} {p : Int × Int} (h : p ∈ L) : 0 ≤ plc L p ∧ plc L p < L.length := by
  unfold plc
  have := List.idxOf_lt_length_of_mem h
  omega
theorem plc_get {L : List (Int × Int)} {p : Int × Int} (h : p ∈ L) : L[(plc L p).toNat]? = some p := by
  unfold plc
  rw [Int.toNat_natCast, List.getElem?_eq_getElem (List.idxOf_lt_length_of_mem h), List.getElem_idxOf]
theorem plc_head {L : List (Int × Int)} {p : Int × Int} (h : L[0]? = some p) : plc L p = 0 := by
  cases L with
  | nil => simp at h
  | cons q L =>
    have : q = p := by simpa using h
    subst this
    simp [plc]
/-- the table of a product, in its midst: s rows, and x entries of the next one -/
structure PTab (a b : D) (L : List (Int × Int)) (N : List Int) (s x : Nat) : Prop where
  len : N.length = (s + 1) * a.K.toNat
  at_ : ∀ (j : Nat) (p : Int × Int) (y : Nat), L[j]? = some p → (y : Int) < a.K → (j < s ∨ j = s ∧ y < x) → N.getD (j * a.K.toNat + y) 0 = plc L (stepP a b p y)
/-- .. between the rows -/
structure PRows (a b : D) (L : List (Int × Int)) (N : List Int) (s : Nat) : Prop where
  len : N.length = s * a.K.toNat
  at_ : ∀ (j : Nat) (p : Int × Int) (y : Nat), L[j]? = some p → (y : Int) < a.K → j < s → N.getD (j * a.K.toNat + y) 0 = plc L (stepP a b p y)
theorem PRows.init (a b : D) (L : List (Int × Int)) : PRows a b L [] 0 := ⟨by simp, fun j p y _ _ h => absurd h (by omega)⟩
theorem PRows.begun {a b : D} {L : List (Int × Int)} {N : List Int} {s : Nat} (h : PRows a b L N s) (z : Int) : PTab a b L (N ++ List.replicate a.K.toNat z) s 0 :=
  ⟨by rw [List.length_append, h.len, List.length_replicate, Nat.add_mul, Nat.one_mul], fun j p y hp hy hj => by
    have hj' : j < s := by omega
    rw [getD_append_left (by rw [h.len]; exact row_lt hj' (by omega))]
    exact h.at_ j p y hp hy hj'⟩
theorem PTab.done {a b : D} {L : List (Int × Int)} {N : List Int} {s x : Nat} (h : PTab a b L N s x) (hx : a.K ≤ x) : PRows a b L N (s + 1) :=
  ⟨h.len, fun j p y hp hy hj => h.at_ j p y hp hy (by omega)⟩
theorem PTab.put {a b : D} {L : List (Int × Int)} {N : List Int} {s x : Nat} {p : Int × Int} (h : PTab a b L N s x) (hp : L[s]? = some p) (hx : (x : Int) < a.K) :
    PTab a b L (N.set (s * a.K.toNat + x) (plc L (stepP a b p x))) s (x + 1) := by
  refine ⟨by rw [List.length_set]; exact h.len, fun j q y hq hy hj => ?_⟩
  by_cases e : s * a.K.toNat + x = j * a.K.toNat + y
  · obtain ⟨rfl, rfl⟩ := row_inj (k := a.K.toNat) (by omega) (by omega) e
    rw [e, getD_set_eq (by rw [h.len]; exact row_lt (by omega) (by omega))]
    rw [hp] at hq
    rw [Option.some.inj hq]
  · rw [getD_set_ne e]
    refine h.at_ j q y hq hy ?_
    rcases hj with hj | ⟨rfl, hj⟩
    · exact .inl hj
    · refine .inr ⟨rfl, ?_⟩
      have : y ≠ x := fun e2 => e (by rw [e2])
      omega
theorem PTab.grow {a b : D} {L : List (Int × Int)} {N : List Int} {s x : Nat} (h : PTab a b L N s x) (hi : PInv a b L s x) (hs : s < L.length) (q : Int × Int) : PTab a b (L ++ [q]) N s x := by
  refine ⟨h.len, fun j p y hp hy hj => ?_⟩
  rw [List.getElem?_append_left (by omega)] at hp
  have hm : stepP a b p y ∈ L := by
    rcases hj with hj | ⟨rfl, hj⟩
    · exact hi.done j p hj hp y ⟨by omega, hy⟩
    · exact hi.part p hp y ⟨by omega, by omega⟩
  rw [plc_append hm]
  exact h.at_ j p y hp hy hj
theorem PTab.grown {a b : D} {L : List (Int × Int)} {N : List Int} {s x : Nat} {p : Int × Int} (h : PTab a b L N s x) (hi : PInv a b L s x) (hp : L[s]? = some p) (hx : (x : Int) < a.K) (hm : stepP a b p x ∉ L) :
    PTab a b (L ++ [stepP a b p x]) (N.set (s * a.K.toNat + x) ((L.length : Nat) : Int)) s (x + 1) := by
  have hs : s < L.length := (List.getElem?_eq_some_iff.1 hp).1
  have := (h.grow hi hs (stepP a b p x)).put (p := p) (by rw [List.getElem?_append_left hs]; exact hp) hx
  rwa [plc_new hm] at this
/-- what a product is -/
structure ProdOf (f : Bool → Bool → Bool) (a b d : D) (L : List (Int × Int)) : Prop where
  k : d.K = a.K
  s : d.S = 0
  inv : PInv a b L L.length 0
  rows : PRows a b L d.N L.length
  acc : d.A = L.map fun p => f (a.acc p.1) (b.acc p.2)
section
variable {f : Bool → Bool → Bool} {a b d : D} {L : List (Int × Int)}
theorem ProdOf.len (h : ProdOf f a b d L) : d.A.length = L.length := by rw [h.acc, List.length_map]
theorem ProdOf.pos (h : ProdOf f a b d L) : 0 < L.length := (List.getElem?_eq_some_iff.1 h.inv.start).1
theorem PInv.closed (h : PInv a b L L.length 0) {p : Int × Int} (hp : p ∈ L) {y : Int} (hy : 0 ≤ y ∧ y < a.K) : stepP a b p y ∈ L := by
  obtain ⟨j, hj, e⟩ := List.getElem_of_mem hp
  exact h.done j p hj (by rw [← e]; exact List.getElem?_eq_getElem hj) y hy
theorem ProdOf.ok (h : ProdOf f a b d L) (ha : a.Ok) (hl : L.length ≤ 65536) : d.Ok := by
  have hlen := h.len
  have hpos := h.pos
  refine ⟨by rw [h.k]; exact ha.1, by rw [h.k]; exact ha.2.1, by omega, by omega, ?_, by rw [h.s]; omega, by rw [h.s]; omega, ?_⟩
  · rw [hlen, h.k, h.rows.len, Int.natCast_mul, Int.toNat_of_nonneg (by have := ha.1; omega)]
  · intro s hs
    obtain ⟨i, hi, e⟩ := List.getElem_of_mem hs
    have hi2 := hi
    rw [h.rows.len] at hi2
    have hk : 0 < a.K.toNat := by have := ha.1; omega
    have hj : i / a.K.toNat < L.length := by
      rw [Nat.div_lt_iff_lt_mul hk]; exact hi2
    have hy : i % a.K.toNat < a.K.toNat := Nat.mod_lt _ hk
    have hat := h.rows.at_ (i / a.K.toNat) L[i / a.K.toNat] (i % a.K.toNat) (List.getElem?_eq_getElem hj) (by omega) hj
    rw [show i / a.K.toNat * a.K.toNat + i % a.K.toNat = i by rw [Nat.mul_comm]; exact Nat.div_add_mod i _] at hat
    rw [List.getD_eq_getElem?_getD, List.getElem?_eq_getElem hi, Option.getD_some, e] at hat
    have hm := h.inv.closed (List.getElem_mem hj) (y := ((i % a.K.toNat : Nat) : Int)) ⟨by omega, by omega⟩
    have := plc_lt hm
    rw [hat, hlen]
    exact this
theorem ProdOf.step (h : ProdOf f a b d L) {p : Int × Int} (hp : p ∈ L) {y : Int} (hy : 0 ≤ y ∧ y < a.K) : d.step (plc L p) y = plc L (stepP a b p y) := by
  obtain ⟨y', rfl⟩ := Int.eq_ofNat_of_zero_le hy.1
  have h0 := plc_lt hp
  have hg := plc_get hp
  have hK0 : ((a.K.toNat : Nat) : Int) = a.K := Int.toNat_of_nonneg (by omega)
  have e : (plc L p * d.K + (y' : Int)).toNat = (plc L p).toNat * a.K.toNat + y' := by
    rw [h.k]
    have e2 : plc L p * a.K + (y' : Int) = (((plc L p).toNat * a.K.toNat + y' : Nat) : Int) := by
      rw [Int.natCast_add, Int.natCast_mul, hK0, Int.toNat_of_nonneg h0.1]
    rw [e2, Int.toNat_natCast]
  unfold D.step
  rw [e]
  exact h.rows.at_ _ p y' hg hy.2 (by omega)
theorem ProdOf.run (h : ProdOf f a b d L) : ∀ (u : List Int) (p : Int × Int), p ∈ L → symsB a.K u = true → d.run (plc L p) u = plc L (a.run p.1 u, b.run p.2 u) ∧ (a.run p.1 u, b.run p.2 u) ∈ L
  | [], p, hp, _ => ⟨rfl, hp⟩
  | x :: u, p, hp, hu => by
    have hu' := symsB_iff.1 hu
    have hm := h.inv.closed hp (hu' x (by simp))
    have ih := h.run u _ hm (symsB_iff.2 fun y hy => hu' y (by simp [hy]))
    rw [← h.step hp (hu' x (by simp))] at ih
    exact ih
theorem ProdOf.acc_at (h : ProdOf f a b d L) {p : Int × Int} (hp : p ∈ L) : d.acc (plc L p) = f (a.acc p.1) (b.acc p.2) := by
  unfold D.acc
  rw [List.getD_eq_getElem?_getD, h.acc, List.getElem?_map, plc_get hp]
  rfl
theorem ProdOf.tells (h : ProdOf f a b d L) (ha : a.Ok) (hb : b.Ok) (hK : a.K = b.K) (hl : L.length ≤ 65536) (u : List Int) :
    d.tells u = (symsB a.K u && f (a.tells u) (b.tells u)) := by
  have hr : d.right = true := D.right_true.2 (h.ok ha hl)
  unfold D.tells
  rw [hr, D.right_true.2 ha, D.right_true.2 hb, h.k, ← hK]
  cases hu : symsB a.K u
  · simp
  · have hm : (a.S, b.S) ∈ L := List.mem_of_getElem? h.inv.start
    obtain ⟨h1, h2⟩ := h.run u _ hm hu
    rw [plc_head h.inv.start, ← h.s] at h1
    simp only [Bool.true_and]
    rw [h1, h.acc_at h2]
theorem ProdOf.le {L' : List (Int × Int)} (h : ProdOf f a b d L) (h' : PInv a b L' L'.length 0) : L.length ≤ L'.length :=
  nodup_subset_len h.inv.nodup fun p hp => h'.all (h.inv.reach p hp)
end
end Go.Proofs.Ytmpcoclgcldclaa
