/- Words for memory: rows of rows, each of the call's own. -/
import Derived.Test.YtmpcoclgcldclaaMem2
import Derived.Deep.Onto
namespace Go.Proofs.Ytmpcoclgcldclaa
open Go.RowKit

/-- the outer row's cells are slices, each a row of the call's own; no two share a block -/
structure Nest {α : Type} (w : World) (base : Nat) (eO eI : TypeId) (size : Nat) (fl : List α → List Value) (AO : Option Addr) (c : Nat) (L : List (List α)) (vs : List Value) : Prop where
  vlen : vs.length = L.length
  outer : w.ownsRow base eO 1 (.slice AO L.length c) L.length vs
  inner : ∀ (s : Nat) (l : List α), L[s]? = some l → ∃ A c', vs[s]? = some (.slice A l.length c') ∧ w.ownsRow base eI size (.slice A l.length c') l.length (fl l)
  sep : ∀ (s t : Nat) (u v : Value) (k : Nat), s ≠ t → vs[s]? = some u → vs[t]? = some v → u.ownBlock = some k → v.ownBlock ≠ some k
section
variable {α : Type} {w w' w1 : World} {base : Nat} {eO eI : TypeId} {size : Nat} {fl : List α → List Value} {AO : Option Addr} {c : Nat} {L : List (List α)} {vs : List Value}
theorem Nest.touch {S : Nat → Prop} (h : Nest w base eO eI size fl AO c L vs) (ht : Touch S w w') (hS : ∀ k cur e, w.heap[k]? = some (.cells cur e (0, 0)) → (e = eO ∨ e = eI) → ¬ S k) : Nest w' base eO eI size fl AO c L vs where
  vlen := h.vlen
  outer := own_touch h.outer ht fun k hk => by
    obtain ⟨cur, hc⟩ := own_heap h.outer hk
    exact hS k cur _ hc (.inl rfl)
  inner := fun s l hl => by
    obtain ⟨A, c', h1, h2⟩ := h.inner s l hl
    refine ⟨A, c', h1, own_touch h2 ht fun k hk => ?_⟩
    obtain ⟨cur, hc⟩ := own_heap h2 hk
    exact hS k cur _ hc (.inr rfl)
  sep := h.sep
theorem Nest.alloc (h : Nest w base eO eI size fl AO c L vs) (o : Obj) : Nest (w.alloc o) base eO eI size fl AO c L vs :=
  h.touch (S := fun _ => False) ((Touch.refl _ w).alloc o) fun _ _ _ _ _ h => h
theorem Nest.drew (h : Nest w base eO eI size fl AO c L vs) : Nest w.drew base eO eI size fl AO c L vs := ⟨h.vlen, h.outer, h.inner, h.sep⟩
theorem Nest.drewN (h : Nest w base eO eI size fl AO c L vs) (n : Nat) : Nest (w.drewN n) base eO eI size fl AO c L vs := ⟨h.vlen, h.outer, h.inner, h.sep⟩
theorem Nest.below (h : Nest w base eO eI size fl AO c L vs) (hb : Below w.heap.size w w') : Nest w' base eO eI size fl AO c L vs :=
  h.touch (Touch.ofBelow hb) fun k cur e hk _ hge => by have := lt_of_heap hk; omega
theorem Nest.mono {base' : Nat} (h : Nest w base eO eI size fl AO c L vs) (hb : base' ≤ base) : Nest w base' eO eI size fl AO c L vs :=
  ⟨h.vlen, h.outer.mono hb, fun s l hl => by obtain ⟨A, c', h1, h2⟩ := h.inner s l hl; exact ⟨A, c', h1, h2.mono hb⟩, h.sep⟩
theorem Nest.get (h : Nest w base eO eI size fl AO c L vs) {s : Nat} {l : List α} (hl : L[s]? = some l) :
    ∃ g A c', AO = some ⟨g, 0, none⟩ ∧ vs[s]? = some (.slice A l.length c') ∧ w.cell? ⟨g, s, none⟩ = some (.slice A l.length c') ∧ w.frozen? ⟨g, s, none⟩ = false ∧ w.ownsRow base eI size (.slice A l.length c') l.length (fl l) := by
  have hs := (List.getElem?_eq_some_iff.1 hl).1
  obtain ⟨A, c', h1, h2⟩ := h.inner s l hl
  rcases h.outer.2 with ⟨_, h0⟩ | ⟨g, cap, cur, hv, _⟩
  · omega
  · have hA : AO = some ⟨g, 0, none⟩ := by injection hv
    subst hA
    refine ⟨g, A, c', rfl, h1, ?_, h.outer.frozenAt s, h2⟩
    rw [h.outer.cellAt s (by omega)]
    exact h1
theorem Nest.outer_ne (h : Nest w base eO eI size fl AO c L vs) (hne : eO ≠ eI) {s : Nat} {v : Value} (hv : vs[s]? = some v) {k : Nat} (hk : v.ownBlock = some k) : (Value.slice AO L.length c).ownBlock ≠ some k := by
  have hs : s < L.length := by have := (List.getElem?_eq_some_iff.1 hv).1; rw [h.vlen] at this; exact this
  obtain ⟨A, c', h1, h2⟩ := h.inner s _ (List.getElem?_eq_getElem hs)
  rw [hv] at h1
  rw [Option.some.inj h1] at hk
  exact own_ne_own h.outer h2 (Ne.symm hne) hk
/-- an inner row has grown, and its slice is put back -/
theorem Nest.put {g : Nat} {s : Nat} {l l' : List α} {A A' : Option Addr} {c' c'' : Nat} (h : Nest w base eO eI size fl (some ⟨g, 0, none⟩) c L vs) (hne : eO ≠ eI) (hl : L[s]? = some l) (hv : vs[s]? = some (.slice A l.length c'))
    (hown : w1.ownsRow base eI size (.slice A' l'.length c'') l'.length (fl l')) (hgr : w.grownBy w1 (Value.slice A l.length c').ownBlock)
    (hat : ∀ k, (Value.slice A' l'.length c'').ownBlock = some k → (Value.slice A l.length c').ownBlock = some k ∨ w.heap.size ≤ k) :
    Nest (w1.setCell ⟨g, s, none⟩ (.slice A' l'.length c'')) base eO eI size fl (some ⟨g, 0, none⟩) c (L.set s l') (vs.set s (.slice A' l'.length c'')) := by
  have hs := (List.getElem?_eq_some_iff.1 hl).1
  have hog : ∀ k, (Value.slice A l.length c').ownBlock = some k → k ≠ g := fun k hk e => by
    subst e
    exact h.outer_ne hne hv hk rfl
  have ho1 : w1.ownsRow base eO 1 (.slice (some ⟨g, 0, none⟩) L.length c) L.length vs := own_touch h.outer (Touch.ofGrown hgr) fun k hk e => by
    have : g = k := by simpa [Value.ownBlock] using hk
    subst this
    exact hog g e.symm rfl
  have hlt : ∀ (t : Nat) (u : Value) (k : Nat), vs[t]? = some u → u.ownBlock = some k → k < w.heap.size := fun t u k hu hk => by
    have ht : t < L.length := by have := (List.getElem?_eq_some_iff.1 hu).1; rw [h.vlen] at this; exact this
    obtain ⟨B, d', h1, h2⟩ := h.inner t _ (List.getElem?_eq_getElem ht)
    rw [hu] at h1
    rw [Option.some.inj h1] at hk
    exact (h2.lt k hk).2
  refine ⟨by simp [h.vlen], ?_, ?_, ?_⟩
  · rw [List.length_set]
    exact (ho1.stored s _).1
  · intro t l2 hl2
    by_cases e : s = t
    · subst e
      rw [List.getElem?_set_self hs] at hl2
      obtain rfl := Option.some.inj hl2
      refine ⟨A', c'', by rw [List.getElem?_set_self (by rw [h.vlen]; exact hs)], ?_⟩
      exact ownsRow_setCell_other (a := ⟨g, s, none⟩) hown (fun e2 => own_ne_own ho1 hown (Ne.symm hne) e2 rfl) _
    · rw [List.getElem?_set_ne e] at hl2
      obtain ⟨B, d', h1, h2⟩ := h.inner t l2 hl2
      refine ⟨B, d', by rw [List.getElem?_set_ne e]; exact h1, ?_⟩
      have h3 : w1.ownsRow base eI size (.slice B l2.length d') l2.length (fl l2) := own_touch h2 (Touch.ofGrown hgr) fun k hk e2 => h.sep t s _ _ k (Ne.symm e) h1 hv hk e2.symm
      exact ownsRow_setCell_other (a := ⟨g, s, none⟩) h3 (fun e2 => own_ne_own ho1 h3 (Ne.symm hne) e2 rfl) _
  · intro t r u v k htr hu hv' hk hk'
    by_cases e1 : s = t
    · subst e1
      rw [List.getElem?_set_self (by rw [h.vlen]; exact hs)] at hu
      obtain rfl := Option.some.inj hu
      rw [List.getElem?_set_ne htr] at hv'
      rcases hat k hk with h1 | h1
      · exact h.sep s r _ _ k htr hv hv' h1 hk'
      · have := hlt r v k hv' hk'; omega
    · rw [List.getElem?_set_ne e1] at hu
      by_cases e2 : s = r
      · subst e2
        rw [List.getElem?_set_self (by rw [h.vlen]; exact hs)] at hv'
        obtain rfl := Option.some.inj hv'
        rcases hat k hk' with h1 | h1
        · exact h.sep t s _ _ k htr hu hv hk h1
        · have := hlt t u k hu hk; omega
      · rw [List.getElem?_set_ne e2] at hv'
        exact h.sep t r u v k htr hu hv' hk hk'
/-- the outer row has grown by a row of the call's own -/
theorem Nest.push {l : List α} {A AO' : Option Addr} {c' cO : Nat} (h : Nest w base eO eI size fl AO c L vs) (hne : eO ≠ eI) (hr : w.ownsRow base eI size (.slice A l.length c') l.length (fl l))
    (hsep : ∀ (t : Nat) (u : Value) (k : Nat), vs[t]? = some u → u.ownBlock = some k → (Value.slice A l.length c').ownBlock ≠ some k)
    (hown : w1.ownsRow base eO 1 (.slice AO' (L.length + 1) cO) (L.length + 1) (vs ++ [.slice A l.length c'])) (hgr : w.grownBy w1 (Value.slice AO L.length c).ownBlock) :
    Nest w1 base eO eI size fl AO' cO (L ++ [l]) (vs ++ [.slice A l.length c']) := by
  have e : (L ++ [l]).length = L.length + 1 := by simp
  refine ⟨by simp [h.vlen], by rw [e]; exact hown, ?_, ?_⟩
  · intro t l2 hl2
    by_cases ht : t < L.length
    · rw [List.getElem?_append_left ht] at hl2
      obtain ⟨B, d', h1, h2⟩ := h.inner t l2 hl2
      refine ⟨B, d', by rw [List.getElem?_append_left (by rw [h.vlen]; exact ht)]; exact h1, own_touch h2 (Touch.ofGrown hgr) fun k hk e2 => h.outer_ne hne h1 hk e2.symm⟩
    · have ht2 : t = L.length := by
        have := (List.getElem?_eq_some_iff.1 hl2).1
        rw [e] at this
        omega
      subst ht2
      rw [List.getElem?_append_right (Nat.le_refl _)] at hl2
      simp only [Nat.sub_self, List.getElem?_cons_zero] at hl2
      obtain rfl := Option.some.inj hl2
      refine ⟨A, c', by rw [← h.vlen, List.getElem?_append_right (Nat.le_refl _)]; simp, own_touch hr (Touch.ofGrown hgr) fun k hk e2 => own_ne_own h.outer hr (Ne.symm hne) hk e2.symm⟩
  · intro t r u v k htr hu hv hk hk'
    by_cases h1 : t < vs.length
    · rw [List.getElem?_append_left h1] at hu
      by_cases h2 : r < vs.length
      · rw [List.getElem?_append_left h2] at hv
        exact h.sep t r u v k htr hu hv hk hk'
      · rw [List.getElem?_append_right (by omega)] at hv
        have hrv : r - vs.length = 0 := by
          have := (List.getElem?_eq_some_iff.1 hv).1
          simp at this
          omega
        rw [hrv] at hv
        simp only [List.getElem?_cons_zero] at hv
        obtain rfl := Option.some.inj hv
        exact hsep t u k hu hk hk'
    · rw [List.getElem?_append_right (by omega)] at hu
      have htv : t - vs.length = 0 := by
        have := (List.getElem?_eq_some_iff.1 hu).1
        simp at this
        omega
      rw [htv] at hu
      simp only [List.getElem?_cons_zero] at hu
      obtain rfl := Option.some.inj hu
      have h2 : r < vs.length := by
        rcases Nat.lt_or_ge r vs.length with h2 | h2
        · exact h2
        · rw [List.getElem?_append_right h2] at hv
          have := (List.getElem?_eq_some_iff.1 hv).1
          simp at this
          omega
      rw [List.getElem?_append_left h2] at hv
      exact hsep r v k hv hk' hk
/-- nil rows -/
theorem Nest.made {n : Nat} (hfl : fl [] = []) (h : w.ownsRow base eO 1 (.slice AO n c) n (List.replicate n (.slice none 0 0))) : Nest w base eO eI size fl AO c (List.replicate n ([] : List α)) (List.replicate n (.slice none 0 0)) := by
  refine ⟨by simp, by simpa using h, ?_, ?_⟩
  · intro s l hl
    rw [List.getElem?_replicate] at hl
    split at hl
    · rename_i hs
      obtain rfl := Option.some.inj hl
      refine ⟨none, 0, by rw [List.getElem?_replicate, if_pos hs]; rfl, ?_⟩
      rw [hfl]
      exact World.ownsRow_nil _ _ _ _
    · cases hl
  · intro s t u v k _ hu _ hk
    rw [List.getElem?_replicate] at hu
    split at hu
    · obtain rfl := Option.some.inj hu
      simp [Value.ownBlock] at hk
    · cases hu
end
end Go.Proofs.Ytmpcoclgcldclaa
