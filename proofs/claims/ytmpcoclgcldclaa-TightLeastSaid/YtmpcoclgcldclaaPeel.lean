/- A region that draws its order, its last operation peeled off: where the last operation waits for all others, the others come first, in whatever order. -/
import Derived.Test.YtmpcoclgcldclaaMem
import Derived.StillTail
import Derived.Deep.RegionHeld
namespace Go.Proofs.Ytmpcoclgcldclaa
open Go.RowKit

section
variable {P : Program} {Q : Exit → Act → World → Prop}
/-- behind the others: the last operation -/
def PeelQ (P : Program) (Q : Exit → Act → World → Prop) (o : Oper) : Exit → Act → World → Prop
  | .normal, a, w => o.wp P a w (fun a w => Q .normal a w) Q
  | e, a, w => Q e a w
theorem peel_letsOut {o : Oper} (h : LetsOut (PeelQ P Q o)) : LetsOut Q := by
  obtain ⟨a, w, h⟩ := h
  exact ⟨a, w, h⟩
theorem peel_wp {o p : Oper} {a : Act} {w : World} {K K' : Act → World → Prop} (h : ∀ a w, K a w → K' a w) (hh : p.wp P a w K (PeelQ P Q o)) : p.wp P a w K' Q := by
  unfold Oper.wp at *
  generalize (execOp a.eval p).run P w = r at *
  cases r with
  | ok n w' =>
    cases n <;> simp only [Oper.upon] at hh ⊢
    case enter f args =>
      refine Calls.mono hh (fun e w'' he => ?_)
      cases e with
      | returned u => exact h _ _ he
      | panicked c => exact he
      | outgrown => exact peel_letsOut he
    case row row args => exact Rows.mono hh (fun _ _ he => h _ _ he)
    all_goals exact h _ _ hh
  | halt x w' => cases x <;> simp only [Oper.upon] at hh ⊢ <;> exact hh
/-- what is asked of the region's text -/
def peelB (l : List Oper) (o : Oper) : Bool :=
  (l ++ [o]).all (fun p => p.guard.isNone) && Region.sinkB .any (l ++ [o]).toArray l.length && (List.range (l.length + 1)).all fun i => (((l ++ [o])[i]?).map fun p => p.after.all fun e => !Region.binds .any e || decide (e.on < i)).getD true
theorem peel_any {l : List Oper} {o : Oper} (hB : peelB l o = true) : ∀ (fuel : Nat) (L : Array Bool) (a : Act) (w : World), L.size = l.length → HeadInv .any (l ++ [o]).toArray l.length (L.push false) →
    wpAny P .any l.toArray (PeelQ P Q o) fuel L a w → wpAny P .any (l ++ [o]).toArray Q (fuel + 1) (L.push false) a w := by
  unfold peelB at hB
  simp only [Bool.and_eq_true] at hB
  obtain ⟨⟨hg, hs⟩, ho⟩ := hB
  have hlast : (l ++ [o]).toArray[l.length]? = some o := by simp
  have hinit : ∀ i, i < l.length → (l ++ [o]).toArray[i]? = l.toArray[i]? := fun i hi => by simp [List.getElem?_append_left hi]
  have hord : ∀ (i : Nat) (p : Oper), (l ++ [o]).toArray[i]? = some p → ∀ e ∈ p.after, Region.binds .any e = true → e.on < i := fun i p hp e he hb => by
    have hi : i < l.length + 1 := by
      have := (Array.getElem?_eq_some_iff.1 hp).1
      simpa using this
    have h1 := List.all_eq_true.1 ho i (List.mem_range.2 hi)
    have hp' : (l ++ [o])[i]? = some p := by simpa using hp
    rw [hp'] at h1
    simp only [Option.map_some, Option.getD_some] at h1
    have h2 := (Array.all_eq_true_iff_forall_mem.1 h1) e he
    simpa [hb] using h2
  have hguard : ∀ (i : Nat) (p : Oper), (l ++ [o]).toArray[i]? = some p → p.guard = none := fun i p hp => by
    have hp' : (l ++ [o])[i]? = some p := by simpa using hp
    have := List.all_eq_true.1 hg p (List.mem_of_getElem? hp')
    simpa using this
  have hc : Region.chainB .any (l ++ [o]).toArray l.length = true := by
    unfold Region.chainB
    refine List.all_eq_true.2 fun t ht => ?_
    have := List.mem_range.1 ht
    have h2 : t ≤ l.length := by simp at this; omega
    simp [h2]
  have hn : l.length < (l ++ [o]).toArray.size := by simp
  have hpush : ∀ (L : Array Bool) (i : Nat) (b : Bool), L.size = l.length → i < l.length → (L.push false).getD i b = L.getD i b := fun L i b hL hi => by
    simp [Array.getElem?_push, show ¬ i = L.size by omega]
  have hlastF : ∀ (L : Array Bool), L.size = l.length → (L.push false).getD l.length true = false := fun L hL => by
    rw [← hL]; simp
  -- of the others the same may come up
  have hready : ∀ (L : Array Bool) (i : Nat), L.size = l.length → i < l.length → (i ∈ Region.ready .any (l ++ [o]).toArray (L.push false) ↔ i ∈ Region.ready .any l.toArray L) := fun L i hL hi => by
    rw [mem_ready, mem_ready, hpush L i true hL hi]
    constructor
    · rintro ⟨h1, p, hp, h2⟩
      refine ⟨h1, p, by rw [← hinit i hi]; exact hp, fun e he hb => ?_⟩
      rw [← hpush L e.on false hL (by have := hord i p hp e he hb; omega)]
      exact h2 e he hb
    · rintro ⟨h1, p, hp, h2⟩
      rw [← hinit i hi] at hp
      refine ⟨h1, p, hp, fun e he hb => ?_⟩
      rw [hpush L e.on false hL (by have := hord i p hp e he hb; omega)]
      exact h2 e he hb
  -- where one of the others has not come up, one of them may
  have hsome : ∀ (L : Array Bool), L.size = l.length → ∀ i, i < l.length → L.getD i true = false → Region.ready .any l.toArray L ≠ [] := fun L hL => by
    intro i
    induction i using Nat.strongRecOn with
    | _ i ih =>
      intro hi hun hnil
      have hp : ∃ p, (l ++ [o]).toArray[i]? = some p := ⟨_, Array.getElem?_eq_getElem (by simp; omega)⟩
      obtain ⟨p, hp⟩ := hp
      by_cases hall : ∀ e ∈ p.after, Region.binds .any e = true → L.getD e.on false = true
      · have : i ∈ Region.ready .any l.toArray L := mem_ready.2 ⟨hun, p, by rw [← hinit i hi]; exact hp, hall⟩
        rw [hnil] at this
        simp at this
      · obtain ⟨e, he⟩ := Classical.not_forall.1 hall
        obtain ⟨hm, he⟩ := Classical.not_imp.1 he
        obtain ⟨hb, he⟩ := Classical.not_imp.1 he
        have hlt := hord i p hp e hm hb
        have hf : L.getD e.on true = false := by
          have h1 : L.getD e.on false = false := by simpa using he
          have h2 : e.on < L.size := by omega
          simp [h2] at h1 ⊢
          exact h1
        exact ih e.on hlt (by omega) hf hnil
  intro fuel
  induction fuel with
  | zero =>
    intro L a w hL inv h
    have hall : ∀ i, i < l.length → L.getD i true = true := fun i hi => by
      cases e : L.getD i true
      · exact absurd h.1 (hsome L hL i hi e)
      · rfl
    refine ⟨fun h0 => ?_, fun i hi => ?_⟩
    · exfalso
      have : l.length ∈ Region.ready .any (l ++ [o]).toArray (L.push false) := mem_ready.2 ⟨hlastF L hL, o, hlast, fun e he hb => by
        have hlt := hord _ o hlast e he hb
        rw [hpush L e.on false hL hlt]
        have h1 := hall e.on hlt
        have h2 : e.on < L.size := by omega
        simp [h2] at h1 ⊢
        exact h1⟩
      rw [h0] at this
      simp at this
    · have him : i = l.length := by
        have h1 := (mem_ready.1 hi)
        obtain ⟨h2, p, hp, _⟩ := h1
        have hlt := (Array.getElem?_eq_some_iff.1 hp).1
        simp at hlt
        rcases Nat.lt_or_ge i l.length with h3 | h3
        · rw [hpush L i true hL h3, hall i h3] at h2
          cases h2
        · omega
      subst him
      unfold wpOp
      rw [hlast]
      have hw : Region.wanted o (yielded (l ++ [o]).toArray a.tmps) = true := by simp [Region.wanted, hguard _ o hlast]
      simp only [hw, if_true]
      left
      refine Oper.wp_mono (fun a' w' h' => ?_) h.2
      refine ⟨?_, h'⟩
      refine List.eq_nil_iff_forall_not_mem.2 fun j hj => ?_
      obtain ⟨h2, p, hp, _⟩ := mem_ready.1 hj
      have hlt := (Array.getElem?_eq_some_iff.1 hp).1
      simp at hlt
      by_cases e : l.length = j
      · subst e
        simp [hL] at h2
      · rw [getD_set_ne true e, hpush L j true hL (by omega), hall j (by omega)] at h2
        cases h2
  | succ fuel ih =>
    intro L a w hL inv h
    by_cases hall : ∀ i, i < l.length → L.getD i true = true
    · -- all others have come up
      have hr : Region.ready .any l.toArray L = [] := List.eq_nil_iff_forall_not_mem.2 fun j hj => by
        obtain ⟨h2, p, hp, _⟩ := mem_ready.1 hj
        have hlt := (Array.getElem?_eq_some_iff.1 hp).1
        simp at hlt
        rw [hall j hlt] at h2
        cases h2
      have hq := h.1 hr
      refine ⟨fun h0 => ?_, fun i hi => ?_⟩
      · exfalso
        have : l.length ∈ Region.ready .any (l ++ [o]).toArray (L.push false) := mem_ready.2 ⟨hlastF L hL, o, hlast, fun e he hb => by
          have hlt := hord _ o hlast e he hb
          rw [hpush L e.on false hL hlt]
          have h1 := hall e.on hlt
          have h2 : e.on < L.size := by omega
          simp [h2] at h1 ⊢
          exact h1⟩
        rw [h0] at this
        simp at this
      · have him : i = l.length := by
          have h1 := (mem_ready.1 hi)
          obtain ⟨h2, p, hp, _⟩ := h1
          have hlt := (Array.getElem?_eq_some_iff.1 hp).1
          simp at hlt
          rcases Nat.lt_or_ge i l.length with h3 | h3
          · rw [hpush L i true hL h3, hall i h3] at h2
            cases h2
          · omega
        subst him
        unfold wpOp
        rw [hlast]
        have hw : Region.wanted o (yielded (l ++ [o]).toArray a.tmps) = true := by simp [Region.wanted, hguard _ o hlast]
        simp only [hw, if_true]
        left
        refine Oper.wp_mono (fun a' w' h' => ?_) hq
        have hnil : Region.ready .any (l ++ [o]).toArray ((L.push false).setIfInBounds l.length true) = [] := by
          refine List.eq_nil_iff_forall_not_mem.2 fun j hj => ?_
          obtain ⟨h2, p, hp, _⟩ := mem_ready.1 hj
          have hlt := (Array.getElem?_eq_some_iff.1 hp).1
          simp at hlt
          by_cases e : l.length = j
          · subst e
            simp [hL] at h2
          · rw [getD_set_ne true e, hpush L j true hL (by omega), hall j (by omega)] at h2
            cases h2
        exact ⟨fun _ => h', by rw [hnil]; simp⟩
    · obtain ⟨i0, hi0⟩ := Classical.not_forall.1 hall
      obtain ⟨hi0, hun⟩ := Classical.not_imp.1 hi0
      have hun' : L.getD i0 true = false := by simpa using hun
      have hnot := tail_waits hs hc hn inv (l.length - i0) i0 rfl hi0 (by rw [hpush L i0 true hL hi0]; exact hun') l.length (Nat.le_refl _)
      have hne := hsome L hL i0 hi0 hun'
      refine ⟨fun h0 => ?_, fun i hi => ?_⟩
      · exfalso
        obtain ⟨j, hj⟩ := List.exists_mem_of_ne_nil _ hne
        have hjl : j < l.length := by
          obtain ⟨_, p, hp, _⟩ := mem_ready.1 hj
          have := (Array.getElem?_eq_some_iff.1 hp).1
          simpa using this
        have := (hready L j hL hjl).2 hj
        rw [h0] at this
        simp at this
      · have hil : i < l.length := by
          obtain ⟨_, p, hp, _⟩ := mem_ready.1 hi
          have := (Array.getElem?_eq_some_iff.1 hp).1
          simp at this
          rcases Nat.lt_or_ge i l.length with h3 | h3
          · exact h3
          · exfalso
            have : i = l.length := by omega
            subst this
            exact hnot hi
        have hi2 := (hready L i hL hil).1 hi
        have h1 := h.2 i hi2
        have hset : (L.push false).setIfInBounds i true = (L.setIfInBounds i true).push false := by
          refine Array.ext_getElem? fun k => ?_
          rw [Array.getElem?_setIfInBounds, Array.getElem?_push, Array.getElem?_push, Array.getElem?_setIfInBounds]
          by_cases e1 : i = k
          · subst e1
            simp [show ¬ i = L.size by omega, show i < L.size by omega, show i < L.size + 1 by omega]
          · simp [e1]
        have inv2 : HeadInv .any (l ++ [o]).toArray l.length ((L.setIfInBounds i true).push false) := by
          rw [← hset]; exact inv.set hi hil
        have hp : ∃ p, (l ++ [o]).toArray[i]? = some p := ⟨_, Array.getElem?_eq_getElem (by simp; omega)⟩
        obtain ⟨p, hp⟩ := hp
        have hp2 := hp
        rw [hinit i hil] at hp2
        unfold wpOp at h1 ⊢
        rw [hp2] at h1
        rw [hp]
        have hgd := hguard i p hp
        simp only [Region.wanted, hgd] at h1 ⊢
        simp only [if_true] at h1 ⊢
        rw [hset]
        rcases h1 with h1 | ⟨h1, h2⟩
        · exact .inl (peel_wp (fun a' w' h' => ih _ a' w' (by simpa using hL) inv2 h') h1)
        · exact .inr ⟨h1, peel_letsOut h2⟩
/-- THE BEGINNING: from the world behind the draw, S for the others, then the last operation -/
theorem wp_region_peel {S : World → Prop} {id : Nat} {l : List Oper} {o : Oper} {a : Act} {w : World} (hm : P.follows .mixedOrders = true) (hB : peelB l o = true) (hS : S w.drew)
    (h : S w.drew → wpAnyH P .any l.toArray (PeelQ P Q o) S l.length (Array.replicate l.length false) a w.drew) : (Code.region id (l ++ [o]).toArray true).wp P Q a w := by
  refine wp_region_any hm ?_
  have h1 := wpAny_of_held _ _ _ _ (h hS)
  have e1 : (l ++ [o]).toArray.size = l.length + 1 := by simp
  have e2 : Array.replicate (l ++ [o]).toArray.size false = (Array.replicate l.length false).push false := by
    rw [e1]
    exact Array.replicate_succ
  rw [e1]
  have e3 : Array.replicate (l.length + 1) false = (Array.replicate l.length false).push false := Array.replicate_succ
  rw [e3]
  refine peel_any hB _ _ _ _ (by simp) ⟨by simp, fun j oj _ hl => ?_, fun t ht ht' => ?_⟩ h1
  · rw [← e3, getD_replicate_false] at hl
    cases hl
  · rw [← e3]
    have : t < l.length + 1 := by simpa using ht'
    simp [this]
/-- .. of a text that is written out -/
theorem wp_region_peelF {S : World → Prop} {id : Nat} {full : List Oper} {a : Act} {w : World} (hne : full ≠ []) (hm : P.follows .mixedOrders = true) (hB : peelB full.dropLast (full.getLast hne) = true) (hS : S w.drew)
    (h : S w.drew → wpAnyH P .any full.dropLast.toArray (PeelQ P Q (full.getLast hne)) S full.dropLast.length (Array.replicate full.dropLast.length false) a w.drew) : (Code.region id full.toArray true).wp P Q a w := by
  have h1 := wp_region_peel (id := id) hm hB hS h
  rwa [List.dropLast_concat_getLast hne] at h1
end
end Go.Proofs.Ytmpcoclgcldclaa
