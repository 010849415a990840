/- A range over a map that is known as a function of its keys; the round may write whatever else. -/
import Derived.Test.YtmpcoclgcldclaaMap
import Derived.Maps.RangeWalk
namespace Go.Proofs.Ytmpcoclgcldclaa
open Go.RowKit Go.MapKept
open Go.ChangeMaps (setBlock)

/-- 'for k, v := range m' under way: block b is the map f, block r the iterator; 'left': whose turn is still to come; cnt: how many these are -/
def RngF {α : Type} (w : World) (b r n : Nat) (κ : α → Value) (f : α → Option Value) (left : α → Bool) (cnt : Nat) : Prop :=
  ∃ es clock since seen c0, w.heap[b]? = some (.map es clock) ∧ es.size ≤ n ∧ Stamped es clock ∧ (∀ e ∈ es.toList, ∃ a, e.key = κ a ∧ f a = some e.val) ∧ (∀ a v, f a = some v → ∃ e ∈ es.toList, e.key = κ a) ∧
    w.heap[r]? = some (.mapIter (some b) since seen c0) ∧ (∀ x ∈ es.toList, x.born < since) ∧ (leftOf es seen).size = cnt ∧
    (∀ x ∈ es.toList, ∀ a, x.key = κ a → left a = !seen.contains x.born) ∧ (∀ a, left a = true → ∃ v, f a = some v) ∧ since ≤ c0 ∧ since ≤ clock
section
variable {α : Type} {w w' : World} {b r n : Nat} {κ : α → Value} {f : α → Option Value} {left : α → Bool} {cnt : Nat} {k e : TypeId}
theorem RngF.lt (h : RngF w b r n κ f left cnt) : b < w.heap.size ∧ r < w.heap.size := by
  obtain ⟨es, clock, since, seen, c0, hb, _, _, _, _, hr, _⟩ := h
  exact ⟨lt_of_heap hb, lt_of_heap hr⟩
theorem RngF.touch {S : Nat → Prop} (h : RngF w b r n κ f left cnt) (ht : Touch S w w') (hb : ¬ S b) (hr : ¬ S r) : RngF w' b r n κ f left cnt := by
  have hl := h.lt
  obtain ⟨es, clock, since, seen, c0, hb', p1, p2, p3, p4, hr', rest⟩ := h
  exact ⟨es, clock, since, seen, c0, (ht.block b hl.1 hb).trans hb', p1, p2, p3, p4, (ht.block r hl.2 hr).trans hr', rest⟩
theorem RngF.below (h : RngF w b r n κ f left cnt) (hb : Below w.heap.size w w') : RngF w' b r n κ f left cnt := by
  have hl := h.lt
  exact h.touch (Touch.ofBelow hb) (by omega) (by omega)
theorem RngF.alloc (h : RngF w b r n κ f left cnt) (o : Obj) : RngF (w.alloc o) b r n κ f left cnt := h.below ((Below.refl _ _).alloc (Nat.le_refl _) o)
theorem RngF.drew (h : RngF w b r n κ f left cnt) : RngF w.drew b r n κ f left cnt := h
theorem RngF.drewN (h : RngF w b r n κ f left cnt) (m : Nat) : RngF (w.drewN m) b r n κ f left cnt := h
/-- neither the map nor the iterator is a block of cells -/
theorem RngF.ne_cells (h : RngF w b r n κ f left cnt) {g : Nat} {cs : Array Value} {t : TypeId} {fr : Nat × Nat} (hg : w.heap[g]? = some (.cells cs t fr)) : b ≠ g ∧ r ≠ g := by
  obtain ⟨es, clock, since, seen, c0, hb, _, _, _, _, hr, _⟩ := h
  constructor
  · intro e; subst e; rw [hb] at hg; cases hg
  · intro e; subst e; rw [hr] at hg; cases hg
theorem RngF.left_eq (h : RngF w b r n κ f left cnt) : w.rangeLeft b r = cnt := by
  obtain ⟨es, clock, since, seen, c0, hb, _, _, _, _, hr, _, hc, _⟩ := h
  simp only [World.rangeLeft, hb, hr]
  exact hc
theorem MapF.range [DecidableEq α] (h : MapF w b n κ f) (hi : ∀ a a', κ a = κ a' → a = a') {t : TypeId} (ht : Try.prog.underlying t = some (.map k e)) :
    ∃ w' cnt, (Instr.range t (.map (some b))).run Try.prog w = .ok (.pointer (some ⟨w.heap.size, 0, none⟩)) w' ∧ RngF w' b w.heap.size n κ f (fun a => (f a).isSome) cnt ∧ Below w.heap.size w w' ∧ w'.heap.size = w.heap.size + 1 := by
  have hlt := h.lt
  obtain ⟨es, clock, hb, hs, hst, hk, hf⟩ := h
  refine ⟨_, _, run_range_map w t k e b es clock ht hb, ⟨es, clock, clock, #[], clock, ((MapKept.heap_alloc w _).2 b hlt).trans hb, hs, hst, hk, hf, (MapKept.heap_alloc w _).1, hst.1, rfl, ?_, ?_, Nat.le_refl _, Nat.le_refl _⟩, (Below.refl _ _).alloc (Nat.le_refl _) _, by simp⟩
  · intro x hx a ha
    obtain ⟨a', h1, h2⟩ := hk x hx
    have : a = a' := hi _ _ (ha.symm.trans h1)
    subst this
    show (f a).isSome = _
    rw [h2]
    simp
  · intro a ha
    exact Option.isSome_iff_exists.1 ha
/-- the step -/
theorem RngF.next [DecidableEq α] (h : RngF w b r n κ f left cnt) (hi : ∀ a a', κ a = κ a' → a = a') (ty : TypeId) :
    (cnt = 0 ∧ (∀ a, left a = false) ∧ (Instr.next (.pointer (some ⟨r, 0, none⟩)) false ty).run Try.prog w = .ok (.tuple #[.bool false]) w) ∨
    ∃ a v w' cnt', left a = true ∧ f a = some v ∧ (Instr.next (.pointer (some ⟨r, 0, none⟩)) false ty).run Try.prog w = .ok (.tuple #[.bool true, κ a, v]) w' ∧
      RngF w' b r n κ f (fun x => left x && !decide (x = a)) cnt' ∧ cnt' < cnt ∧ Touch (fun j => j = r) w w' ∧ w'.heap.size = w.heap.size ∧ (Instr.entry (.pointer (some ⟨r, 0, none⟩))).run Try.prog w' = .ok (.tuple #[κ a, v]) w' := by
  obtain ⟨es, clock, since, seen, c0, hb, hs, hst, hk, hf, hr, hold, rfl, hl1, hl2, hsc, hsk⟩ := h
  have hne : r ≠ b := by intro e1; rw [e1, hb] at hr; cases hr
  have hst3 := (stamped_iff es clock).1 hst
  rcases run_next_at (P := Try.prog) w ty r b since c0 seen es clock hr hb hold hsc with ⟨h0, hrun⟩ | ⟨e0, he, w1, hal, hrun⟩
  · refine Or.inl ⟨h0, fun a => ?_, hrun⟩
    cases hla : left a
    · rfl
    · obtain ⟨v, hv⟩ := hl2 a hla
      obtain ⟨x, hx, hxk⟩ := hf a v hv
      rw [hl1 x hx a hxk, all_seen es seen h0 x hx] at hla
      cases hla
  · obtain ⟨hem, hes⟩ := mem_left he
    obtain ⟨a, hka, hfa⟩ := hk e0 hem
    have hr1 : w1.heap[r]? = some (.mapIter (some b) since seen c0) := by rcases hal with rfl | rfl <;> exact hr
    have hb1 : w1.heap[b]? = some (.map es clock) := by rcases hal with rfl | rfl <;> exact hb
    have hset := heap_set (o' := .mapIter (some b) since (seen.push e0.born) clock) hr1
    have hb' : (setBlock w1 r (.mapIter (some b) since (seen.push e0.born) clock)).heap[b]? = some (.map es clock) := (hset.2 b (fun e1 => hne e1.symm)).trans hb1
    refine Or.inr ⟨a, e0.val, _, _, by rw [hl1 e0 hem a hka, hes]; rfl, hfa, by rw [← hka]; exact hrun,
      ⟨es, clock, since, seen.push e0.born, clock, hb', hs, hst, hk, hf, hset.1, hold, rfl, fun x hx a' hxa => ?_, fun a' ha' => hl2 a' (by simp at ha'; exact ha'.1), hsk, hsk⟩, left_shrinks es seen e0 he, ?_, ?_,
      by rw [← hka]; exact run_entry_at _ r b since seen es clock e0 hset.1 hb' hem hst3.2.1⟩
    · show (left a' && !decide (a' = a)) = _
      rw [hl1 x hx a' hxa, contains_push]
      by_cases e1 : a' = a
      · subst e1
        have : x = e0 := entry_eq_of_key hst3.2.2 hx hem (hxa.trans hka.symm)
        subst this
        simp
      · have : (x.born == e0.born) = false := by
          have hne2 : x.born ≠ e0.born := fun e2 => by
            have := born_inj hst3.2.1 hx hem e2
            subst this
            exact e1 (hi _ _ (hxa.symm.trans hka))
          simp [hne2]
        rw [this]
        simp [e1]
    · rcases hal with rfl | rfl <;> exact ⟨rfl, rfl, rfl, by simp [setBlock], fun i _ hi' => hset.2 i hi'⟩
    · rcases hal with rfl | rfl <;> simp [setBlock]
end
/-- 'range m' at the operation -/
theorem wpList_rangeF {α : Type} [DecidableEq α] {k e : TypeId} {κ : α → Value} (w : World) {ops : Array Oper} {rest : List Oper} {o : Oper} {a : Act} {Q : Exit → Act → World → Prop}
    (hg : o.guard = none) (m : Operand) (t : TypeId) (hop : o.op = Op.range t m) (hi : ∀ a a', κ a = κ a' → a = a') (ht : Try.prog.underlying t = some (.map k e)) (b n : Nat) (f : α → Option Value)
    (hm : a.eval m = .map (some b)) (hown : MapF w b n κ f)
    (hK : ∀ w' cnt, RngF w' b w.heap.size n κ f (fun a => (f a).isSome) cnt → Below w.heap.size w w' → w'.heap.size = w.heap.size + 1 → wpList Try.prog ops Q rest (a.put o.dst (.pointer (some ⟨w.heap.size, 0, none⟩))) w') :
    wpList Try.prog ops Q (o :: rest) a w := by
  refine wpList_plain hg fun K' hK' => ?_
  obtain ⟨w', cnt, hrun, r1, r2, r3⟩ := hown.range hi ht
  unfold Oper.wp
  simp [execOp, hop, hm, hrun, Result.andThen]
  exact hK' _ _ (hK w' cnt r1 r2 r3)
/-- the step at the operation -/
theorem wpList_nextF {α : Type} [DecidableEq α] {κ : α → Value} (w : World) {ops : Array Oper} {rest : List Oper} {o : Oper} {a : Act} {Q : Exit → Act → World → Prop}
    (hg : o.guard = none) (it : Operand) (hop : o.op = Op.next it false) (hi : ∀ a a', κ a = κ a' → a = a') (b r n : Nat) (f : α → Option Value) (left : α → Bool) (cnt : Nat)
    (hit : a.eval it = .pointer (some ⟨r, 0, none⟩)) (h : RngF w b r n κ f left cnt)
    (hDone : cnt = 0 → (∀ x, left x = false) → wpList Try.prog ops Q rest (a.put o.dst (.tuple #[.bool false])) w)
    (hMore : ∀ (x : α) (v : Value) (w' : World) (cnt' : Nat), left x = true → f x = some v → RngF w' b r n κ f (fun y => left y && !decide (y = x)) cnt' → cnt' < cnt → Touch (fun j => j = r) w w' → w'.heap.size = w.heap.size →
      (Instr.entry (.pointer (some ⟨r, 0, none⟩))).run Try.prog w' = .ok (.tuple #[κ x, v]) w' → wpList Try.prog ops Q rest (a.put o.dst (.tuple #[.bool true, κ x, v])) w') :
    wpList Try.prog ops Q (o :: rest) a w := by
  refine wpList_plain hg fun K' hK' => ?_
  unfold Oper.wp
  rcases h.next hi o.type with ⟨h0, hl, hrun⟩ | ⟨x, v, w', cnt', hlx, hfx, hrun, hrg, hlt, ht, hsz, hen⟩
  · simp [execOp, hop, hit, hrun, Result.andThen]
    exact hK' _ _ (hDone h0 hl)
  · simp [execOp, hop, hit, hrun, Result.andThen]
    exact hK' _ _ (hMore x v w' cnt' hlx hfx hrg hlt ht hsz hen)
end Go.Proofs.Ytmpcoclgcldclaa
