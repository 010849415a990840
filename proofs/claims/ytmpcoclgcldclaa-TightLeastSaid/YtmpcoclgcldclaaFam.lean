/- Words for memory: a family of rows of the call's own, no two of them in one block. -/
import Derived.Test.YtmpcoclgcldclaaMem2
import Derived.Deep.Onto
namespace Go.Proofs.Ytmpcoclgcldclaa
open Go.RowKit

/-- a row: its cells' type, its slice, what it holds -/
structure Row where
  e : TypeId
  v : Value
  xs : List Value
/-- each is a row of the call's own, and no two share a block -/
structure Fam {ι : Type} (w : World) (base : Nat) (F : ι → Option Row) : Prop where
  own : ∀ t r, F t = some r → w.ownsRow base r.e 1 r.v r.xs.length r.xs
  sep : ∀ t t' r r' k, t ≠ t' → F t = some r → F t' = some r' → r.v.ownBlock = some k → r'.v.ownBlock ≠ some k
section
variable {ι κ : Type} {w w' : World} {base : Nat} {F F' : ι → Option Row}
theorem Fam.touch {S : Nat → Prop} (h : Fam w base F) (ht : Touch S w w') (hS : ∀ t r k, F t = some r → r.v.ownBlock = some k → ¬ S k) : Fam w' base F :=
  ⟨fun t r hr => own_touch (h.own t r hr) ht fun k hk => hS t r k hr hk, h.sep⟩
theorem Fam.lt {t : ι} {r : Row} {k : Nat} (h : Fam w base F) (hr : F t = some r) (hk : r.v.ownBlock = some k) : base ≤ k ∧ k < w.heap.size := (h.own t r hr).lt k hk
theorem Fam.below (h : Fam w base F) (hb : Below w.heap.size w w') : Fam w' base F :=
  h.touch (Touch.ofBelow hb) fun _ _ _ hr hk hge => by have := (h.lt hr hk).2; omega
theorem Fam.alloc (h : Fam w base F) (o : Obj) : Fam (w.alloc o) base F := h.below ((Below.refl _ _).alloc (Nat.le_refl _) o)
theorem Fam.drew (h : Fam w base F) : Fam w.drew base F := ⟨h.own, h.sep⟩
theorem Fam.drewN (h : Fam w base F) (n : Nat) : Fam (w.drewN n) base F := ⟨h.own, h.sep⟩
theorem Fam.ne_obj {t : ι} {r : Row} {g : Nat} {o : Obj} (h : Fam w base F) (hr : F t = some r) (hg : w.heap[g]? = some o) (ho : ∀ cur e, o ≠ .cells cur e (0, 0)) : r.v.ownBlock ≠ some g :=
  own_ne_obj (h.own t r hr) hg fun cur => ho cur _
theorem Fam.ne_blk {t : ι} {r : Row} {g : Nat} {ty : TypeId} {cs : Array Value} (h : Fam w base F) (hr : F t = some r) (hg : Blk w g ty cs) (hne : ty ≠ r.e) : r.v.ownBlock ≠ some g :=
  own_ne_blk (h.own t r hr) hg hne
/-- fewer rows, or the same ones by other names -/
theorem Fam.pull {G : κ → Option Row} (h : Fam w base F) (g : κ → ι) (hG : ∀ t r, G t = some r → F (g t) = some r) (hi : ∀ t t' r r', G t = some r → G t' = some r' → g t = g t' → t = t') : Fam w base G :=
  ⟨fun t r hr => h.own _ r (hG t r hr), fun t t' r r' k hne hr hr' hk => h.sep _ _ r r' k (fun e => hne (hi t t' r r' hr hr' e)) (hG t r hr) (hG t' r' hr') hk⟩
/-- one row has turned, or has come -/
theorem Fam.put {t : ι} {r' : Row} (h : Fam w base F) (hF : F' t = some r') (hN : ∀ u r, u ≠ t → F' u = some r → F u = some r) (ht : Touch (fun k => ∃ r, F t = some r ∧ r.v.ownBlock = some k) w w')
    (ho : w'.ownsRow base r'.e 1 r'.v r'.xs.length r'.xs) (hat : ∀ k, r'.v.ownBlock = some k → (∃ r, F t = some r ∧ r.v.ownBlock = some k) ∨ w.heap.size ≤ k) : Fam w' base F' := by
  refine ⟨fun u r hr => ?_, fun u u' r r2 k hne hr hr2 hk hk2 => ?_⟩
  · by_cases e : u = t
    · subst e
      rw [hF] at hr
      obtain rfl := Option.some.inj hr
      exact ho
    · have hu := hN u r e hr
      exact own_touch (h.own u r hu) ht fun k hk ⟨r0, h1, h2⟩ => h.sep t u r0 r k (Ne.symm e) h1 hu h2 hk
  · by_cases e : u = t
    · subst e
      rw [hF] at hr
      obtain rfl := Option.some.inj hr
      have hu := hN u' r2 (Ne.symm hne) hr2
      rcases hat k hk with ⟨r0, h1, h2⟩ | h1
      · exact h.sep u u' r0 r2 k hne h1 hu h2 hk2
      · have := (h.lt hu hk2).2; omega
    · by_cases e2 : u' = t
      · subst e2
        rw [hF] at hr2
        obtain rfl := Option.some.inj hr2
        have hu := hN u r e hr
        rcases hat k hk2 with ⟨r0, h1, h2⟩ | h1
        · exact h.sep u u' r r0 k hne hu h1 hk h2
        · have := (h.lt hu hk).2; omega
      · exact h.sep u u' r r2 k hne (hN u r e hr) (hN u' r2 e2 hr2) hk hk2
/-- a cell of a row -/
theorem Fam.cell {t : ι} {e : TypeId} {v x : Value} {xs : List Value} {j : Nat} (h : Fam w base F) (hr : F t = some ⟨e, v, xs⟩) (hj : xs[j]? = some x) :
    ∃ g c, v = .slice (some ⟨g, 0, none⟩) xs.length c ∧ w.cell? ⟨g, j, none⟩ = some x ∧ w.frozen? ⟨g, j, none⟩ = false ∧ base ≤ g ∧ g < w.heap.size := by
  have ho := h.own t _ hr
  have hl := (List.getElem?_eq_some_iff.1 hj).1
  rcases ho.2 with ⟨_, h0⟩ | ⟨g, cap, cur, hv, _⟩
  · simp only at h0; omega
  · simp only at hv ho
    subst hv
    have hlt := ho.lt g rfl
    refine ⟨g, cap, rfl, ?_, ho.frozenAt j, hlt.1, hlt.2⟩
    rw [ho.cellAt j (by omega)]
    exact hj
theorem Fam.form {t : ι} {e : TypeId} {v : Value} {xs : List Value} (h : Fam w base F) (hr : F t = some ⟨e, v, xs⟩) : ∃ A c, v = .slice A xs.length c := own_form (h.own t _ hr)
/-- a cell of a row has been written -/
theorem Fam.set {t : ι} {e : TypeId} {g n c : Nat} {xs : List Value} (h : Fam w base F) (hr : F t = some ⟨e, .slice (some ⟨g, 0, none⟩) n c, xs⟩) (j : Nat) (x : Value)
    (hF : F' t = some ⟨e, .slice (some ⟨g, 0, none⟩) n c, xs.set j x⟩) (hN : ∀ u r, u ≠ t → F' u = some r → F u = some r) : Fam (w.setCell ⟨g, j, none⟩ x) base F' := by
  have ho := h.own t _ hr
  have hn : n = xs.length := by
    obtain ⟨A, c', e2⟩ := own_form ho
    simp only at e2
    injection e2
  subst hn
  refine h.put hF hN ((Touch.refl _ w).setCell (fun _ => ⟨_, hr, rfl⟩) x) ?_ fun k hk => .inl ⟨_, hr, hk⟩
  simp only [List.length_set]
  exact (ho.stored j x).1
end
end Go.Proofs.Ytmpcoclgcldclaa
