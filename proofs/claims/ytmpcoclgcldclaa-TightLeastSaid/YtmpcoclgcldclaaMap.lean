/- Maps that are known as functions of their keys: made, asked, written. -/
import Derived.Test.YtmpcoclgcldclaaMem2
import Derived.Laws.StructEq
import Derived.Maps.OwnSet
namespace Go.Proofs.Ytmpcoclgcldclaa
open Go.RowKit Go.MapKept
open Go.ChangeMaps (setBlock)

/-- what the laws on a map ask of its keys -/
structure KeyK (k : TypeId) {α : Type} (κ : α → Value) : Prop where
  inj : ∀ a a', κ a = κ a' → a = a'
  check : ∀ (w : World) (em : Bool) (a : α), (Instr.checkKey em 10000 k (κ a)).run Try.prog w = .ok () w
  find : ∀ (w : World) (a : α) (es : List MapEntry), (∀ e ∈ es, ∃ a', e.key = κ a') →
    ((Instr.findKey k (κ a) es).run Try.prog w = .ok none w ∧ ∀ e ∈ es, e.key ≠ κ a) ∨ ∃ j e, (Instr.findKey k (κ a) es).run Try.prog w = .ok (some (j, e.val)) w ∧ es[j]? = some e ∧ e.key = κ a
  stays : ∀ (w : World) (a : α), (Instr.keyThatStays (κ a) (κ a)).run Try.prog w = .ok (κ a) w

/-- block b is a map of at most n entries: f, its keys spelt by κ -/
def MapF {α : Type} (w : World) (b n : Nat) (κ : α → Value) (f : α → Option Value) : Prop :=
  ∃ es clock, w.heap[b]? = some (.map es clock) ∧ es.size ≤ n ∧ Stamped es clock ∧ (∀ e ∈ es.toList, ∃ a, e.key = κ a ∧ f a = some e.val) ∧ ∀ a v, f a = some v → ∃ e ∈ es.toList, e.key = κ a
section
variable {α : Type} {w w' : World} {b n : Nat} {κ : α → Value} {f : α → Option Value} {k e : TypeId}
theorem MapF.lt (h : MapF w b n κ f) : b < w.heap.size := by
  obtain ⟨es, clock, hb, _⟩ := h
  exact lt_of_heap hb
theorem MapF.made (w : World) (κ : α → Value) : MapF (w.alloc (.map #[] 0)) w.heap.size 0 κ (fun _ => none) :=
  ⟨#[], 0, heap_alloc_new w _, Nat.le_refl _, stamped_empty 0, by simp, fun _ _ h => by cases h⟩
theorem MapF.mono {m : Nat} (h : MapF w b n κ f) (hm : n ≤ m) : MapF w b m κ f := by
  obtain ⟨es, clock, hb, hs, r⟩ := h
  exact ⟨es, clock, hb, by omega, r⟩
theorem MapF.touch {S : Nat → Prop} (h : MapF w b n κ f) (ht : Touch S w w') (hS : ¬ S b) : MapF w' b n κ f := by
  obtain ⟨es, clock, hb, r⟩ := h
  exact ⟨es, clock, (ht.block b (lt_of_heap hb) hS).trans hb, r⟩
theorem MapF.alloc (h : MapF w b n κ f) (o : Obj) : MapF (w.alloc o) b n κ f := by
  obtain ⟨es, clock, hb, r⟩ := h
  exact ⟨es, clock, (Below.heap_alloc w o b (lt_of_heap hb)).trans hb, r⟩
theorem MapF.drew (h : MapF w b n κ f) : MapF w.drew b n κ f := h
theorem MapF.far (h : MapF w b n κ f) {p : Addr} (hp : b ≠ p.block) (u : Value) : MapF (w.setCell p u) b n κ f := by
  obtain ⟨es, clock, hb, r⟩ := h
  exact ⟨es, clock, (Below.heap_setCell w p u b hp).trans hb, r⟩
theorem MapF.below {B : Nat} (h : MapF w b n κ f) (hb : Below B w w') (hg : b < B) : MapF w' b n κ f := by
  obtain ⟨es, clock, hh, r⟩ := h
  exact ⟨es, clock, (hb.block b hg).trans hh, r⟩
theorem MapF.ext {f' : α → Option Value} (h : MapF w b n κ f) (he : ∀ a, f a = f' a) : MapF w b n κ f' := by
  have : f = f' := funext he
  subst this
  exact h
/-- a map is no row -/
theorem MapF.ne_own {base : Nat} {t : TypeId} {size m : Nat} {v : Value} {xs : List Value} (h : MapF w b n κ f) (ho : w.ownsRow base t size v m xs) : v.ownBlock ≠ some b := by
  obtain ⟨es, clock, hb, _⟩ := h
  exact own_ne_obj ho hb fun _ e => by cases e
theorem MapF.ne_blk {g : Nat} {t : TypeId} {cs : Array Value} (h : MapF w b n κ f) (hg : Blk w g t cs) : b ≠ g := by
  obtain ⟨es, clock, hb, _⟩ := h
  intro e
  subst e
  unfold Blk at hg
  rw [hb] at hg
  cases hg
theorem MapF.look (h : MapF w b n κ f) (K : KeyK k κ) {t : TypeId} (ht : Try.prog.underlying t = some (.map k e)) {z : Value} (hz : (zeroValue e).run Try.prog w = .ok z w) (c : Bool) (a : α) :
    (Instr.lookup t (.map (some b)) (κ a) c).run Try.prog w = .ok (if c then .tuple #[(f a).getD z, .bool (f a).isSome] else (f a).getD z) w := by
  obtain ⟨es, clock, hb, _, _, hk, hf⟩ := h
  rcases K.find w a es.toList (fun x hx => by obtain ⟨a', h1, _⟩ := hk x hx; exact ⟨a', h1⟩) with ⟨h1, h2⟩ | ⟨j, e0, h1, h2, h3⟩
  · have hn : f a = none := by
      cases hfa : f a with
      | none => rfl
      | some v =>
        obtain ⟨x, hx, hxk⟩ := hf a v hfa
        exact absurd hxk (h2 x hx)
    simp [Instr.lookup, run_underlying ht, MapKept.run_getObj_map hb, K.check w _ a, h1, hz, Result.andThen, hn]
  · obtain ⟨a', k1, k2⟩ := hk e0 (List.mem_of_getElem? h2)
    rw [h3] at k1
    have := K.inj _ _ k1
    subst this
    simp [Instr.lookup, run_underlying ht, MapKept.run_getObj_map hb, K.check w _ a, h1, Result.andThen, k2]
theorem MapF.store [DecidableEq α] (h : MapF w b n κ f) (K : KeyK k κ) {t : TypeId} (ht : Try.prog.underlying t = some (.map k e)) (a : α) (v : Value) :
    ∃ w', (Instr.mapUpdate t (.map (some b)) (κ a) v).run Try.prog w = .ok () w' ∧ MapF w' b (n + 1) κ (fun x => if x = a then some v else f x) ∧ Touch (fun j => j = b) w w' := by
  obtain ⟨es, clock, hb, hn, hst, hk, hf⟩ := h
  have hset : ∀ o, (setBlock w b o).heap[b]? = some o := fun o => by
    have hl := lt_of_heap hb
    show (w.heap.setIfInBounds b o)[b]? = _
    simp [hl]
  have htouch : ∀ o, Touch (fun j => j = b) w (setBlock w b o) := fun o => ⟨rfl, rfl, rfl, by simp [setBlock], fun i _ hi => by
    show (w.heap.setIfInBounds b o)[i]? = _
    rw [Array.getElem?_setIfInBounds_ne (fun e => hi e.symm)]⟩
  rcases K.find w a es.toList (fun x hx => by obtain ⟨a', h1, _⟩ := hk x hx; exact ⟨a', h1⟩) with ⟨h1, h2⟩ | ⟨j, e0, h1, h2, h3⟩
  · refine ⟨setBlock w b (.map (es.push ⟨κ a, v, clock⟩) (clock + 1)), by simp [Instr.mapUpdate, run_underlying ht, MapKept.run_getObj_map hb, K.check w false a, h1, MapKept.run_setObj_map _ hb, Result.andThen, setBlock], ⟨_, _, hset _, by simp; omega, stamped_push hst h2, ?_, ?_⟩, htouch _⟩
    · intro x hx
      simp only [Array.toList_push, List.mem_append, List.mem_singleton] at hx
      rcases hx with hx | rfl
      · obtain ⟨a', k1, k2⟩ := hk x hx
        refine ⟨a', k1, ?_⟩
        exact (if_neg (fun e2 => h2 x hx (by rw [k1, e2]))).trans k2
      · exact ⟨a, rfl, if_pos rfl⟩
    · intro a' v' h'
      by_cases ha : a' = a
      · subst ha
        exact ⟨⟨κ a', v, clock⟩, by simp, rfl⟩
      · obtain ⟨x, hx, hxk⟩ := hf a' v' ((if_neg ha).symm.trans h')
        exact ⟨x, by simp [hx], hxk⟩
  · have hj : es[j]? = some e0 := by simpa using h2
    have hlist : (es.modify j (fun e' => { e' with key := κ a, val := v })).toList = es.toList.set j { e0 with key := κ a, val := v } := by
      rw [Array.toList_modify, ChangeMaps.modify_eq_set _ _ _ _ h2]
    have hjl : j < es.toList.length := (List.getElem?_eq_some_iff.1 h2).1
    have hap : es.toList.Pairwise (fun x y => x.key ≠ y.key) := ((stamped_iff es clock).1 hst).2.2
    refine ⟨setBlock w b (.map (es.modify j (fun e' => { e' with key := κ a, val := v })) clock), ?_, ⟨_, _, hset _, by simp; omega, stamped_modify hst _ _ (fun _ _ => rfl) (fun e' _ he' => by rw [hj] at he'; cases he'; exact h3.symm), ?_, ?_⟩, htouch _⟩
    · simp [Instr.mapUpdate, run_underlying ht, MapKept.run_getObj_map hb, K.check w false a, h1, hj, h3, K.stays w a, MapKept.run_setObj_map _ hb, Result.andThen, setBlock]
    · intro x hx
      rw [hlist] at hx
      obtain ⟨i, hi, ex⟩ := List.getElem_of_mem hx
      rw [List.getElem_set] at ex
      split at ex
      · subst ex
        exact ⟨a, rfl, if_pos rfl⟩
      · rename_i hne
        have hi' : i < es.toList.length := by simpa using hi
        have hm : x ∈ es.toList := ex ▸ List.getElem_mem hi'
        obtain ⟨a', k1, k2⟩ := hk x hm
        refine ⟨a', k1, ?_⟩
        refine (if_neg ?_).trans k2
        · intro ea
          subst ea
          have hne' : x.key ≠ e0.key := by
            rcases Nat.lt_or_gt_of_ne hne with hl | hl
            · have := List.pairwise_iff_getElem.1 hap j i hjl hi' hl
              rw [ex] at this
              rw [List.getElem?_eq_getElem hjl] at h2
              rw [Option.some.inj h2] at this
              exact this.symm
            · have := List.pairwise_iff_getElem.1 hap i j hi' hjl hl
              rw [ex] at this
              rw [List.getElem?_eq_getElem hjl] at h2
              rw [Option.some.inj h2] at this
              exact this
          exact hne' (k1.trans h3.symm)
    · intro a' v' h'
      by_cases ha : a' = a
      · subst ha
        refine ⟨{ e0 with key := κ a', val := v }, ?_, rfl⟩
        rw [hlist]
        exact List.mem_iff_getElem.2 ⟨j, by simpa using hjl, by simp⟩
      · obtain ⟨x, hx, hxk⟩ := hf a' v' ((if_neg ha).symm.trans h')
        obtain ⟨i, hi, ex⟩ := List.getElem_of_mem hx
        have hne : j ≠ i := fun ee => by
          subst ee
          rw [List.getElem?_eq_getElem hjl] at h2
          have := Option.some.inj h2
          rw [ex] at this
          subst this
          exact ha (K.inj _ _ (hxk.symm.trans h3))
        refine ⟨x, ?_, hxk⟩
        rw [hlist]
        exact List.mem_iff_getElem.2 ⟨i, by simpa using hi, by rw [List.getElem_set_ne hne]; exact ex⟩
end
/-- 'v, ok := m[k]' at the operation -/
theorem wpList_look_ok {α : Type} {k e : TypeId} {κ : α → Value} (w : World) {ops : Array Oper} {rest : List Oper} {o : Oper} {a : Act} {Q : Exit → Act → World → Prop}
    (hg : o.guard = none) (m x : Operand) (t : TypeId) (hop : o.op = Op.lookup t m x true) (K : KeyK k κ) (ht : Try.prog.underlying t = some (.map k e)) {z : Value} (hz : (zeroValue e).run Try.prog w = .ok z w)
    (b n : Nat) (f : α → Option Value) (hm : a.eval m = .map (some b)) (hown : MapF w b n κ f) (key : α) (hx : a.eval x = κ key) (v : Value) (ok : Bool) (hv : (f key).getD z = v) (hok : (f key).isSome = ok)
    (hK : wpList Try.prog ops Q rest (a.put o.dst (.tuple #[v, .bool ok])) w) : wpList Try.prog ops Q (o :: rest) a w := by
  subst hv hok
  refine wpList_plain hg fun K' hK' => ?_
  have hrun := hown.look K ht hz true key
  unfold Oper.wp
  simp [execOp, hop, hm, hx, hrun, Result.andThen]
  exact hK' _ _ hK
/-- 'm[k]' at the operation -/
theorem wpList_look {α : Type} {k e : TypeId} {κ : α → Value} (w : World) {ops : Array Oper} {rest : List Oper} {o : Oper} {a : Act} {Q : Exit → Act → World → Prop}
    (hg : o.guard = none) (m x : Operand) (t : TypeId) (hop : o.op = Op.lookup t m x false) (K : KeyK k κ) (ht : Try.prog.underlying t = some (.map k e)) {z : Value} (hz : (zeroValue e).run Try.prog w = .ok z w)
    (b n : Nat) (f : α → Option Value) (hm : a.eval m = .map (some b)) (hown : MapF w b n κ f) (key : α) (hx : a.eval x = κ key) (v : Value) (hv : (f key).getD z = v)
    (hK : wpList Try.prog ops Q rest (a.put o.dst v) w) : wpList Try.prog ops Q (o :: rest) a w := by
  subst hv
  refine wpList_plain hg fun K' hK' => ?_
  have hrun := hown.look K ht hz false key
  unfold Oper.wp
  simp [execOp, hop, hm, hx, hrun, Result.andThen]
  exact hK' _ _ hK
/-- 'm[k] = v' at the operation -/
theorem wpList_store {α : Type} [DecidableEq α] {k e : TypeId} {κ : α → Value} (w : World) {ops : Array Oper} {rest : List Oper} {o : Oper} {a : Act} {Q : Exit → Act → World → Prop}
    (hg : o.guard = none) (m x v : Operand) (t : TypeId) (hop : o.op = Op.mapUpdate t m x v) (K : KeyK k κ) (ht : Try.prog.underlying t = some (.map k e))
    (b n : Nat) (f : α → Option Value) (hm : a.eval m = .map (some b)) (hown : MapF w b n κ f) (key : α) (val : Value) (hx : a.eval x = κ key) (hv : a.eval v = val)
    (hK : ∀ w', MapF w' b (n + 1) κ (fun x => if x = key then some val else f x) → Touch (fun j => j = b) w w' → wpList Try.prog ops Q rest (a.put o.dst undef) w') : wpList Try.prog ops Q (o :: rest) a w := by
  refine wpList_plain hg fun K' hK' => ?_
  obtain ⟨w', hrun, r1, r2⟩ := hown.store K ht key val
  unfold Oper.wp
  simp [execOp, hop, hm, hx, hv, hrun, Result.andThen]
  exact hK' _ _ (hK w' r1 r2)

def pairV (p : Int × Int) : Value := .agg #[.int .i64 p.1, .int .i64 p.2]
/-- '==' at a type of pairs of ints -/
def PairEq (T : TypeId) : Prop := ∀ (w : World) (p q : Int × Int), (Op.equal T (pairV p) (pairV q)).run Try.prog w = .ok (p == q) w
theorem pairEq112 : PairEq 112 := by
  intro w p q
  have h : (Op.equal 112 (pairV p) (pairV q)).run Try.prog w = .ok (p.1 == q.1 && p.2 == q.2) w := by
    have h := run_equalIn_struct (P := Try.prog) w 9999 112 #[.int .i64 p.1, .int .i64 p.2] #[.int .i64 q.1, .int .i64 q.2] (by kernel_rfl) (by kernel_rfl)
    refine (show (Op.equal 112 (pairV p) (pairV q)).run Try.prog w = _ from h).trans ?_
    simp [go_sem, Try.underlying112, Op.eqFields]
    by_cases h1 : p.1 = q.1 <;> by_cases h2 : p.2 = q.2 <;> simp [h1, h2]
  exact h
theorem pairEq136 : PairEq 136 := by
  intro w p q
  have h : (Op.equal 136 (pairV p) (pairV q)).run Try.prog w = .ok (p.1 == q.1 && p.2 == q.2) w := by
    have h := run_equalIn_struct (P := Try.prog) w 9999 136 #[.int .i64 p.1, .int .i64 p.2] #[.int .i64 q.1, .int .i64 q.2] (by kernel_rfl) (by kernel_rfl)
    refine (show (Op.equal 136 (pairV p) (pairV q)).run Try.prog w = _ from h).trans ?_
    simp [go_sem, Try.underlying136, Op.eqFields]
    by_cases h1 : p.1 = q.1 <;> by_cases h2 : p.2 = q.2 <;> simp [h1, h2]
  exact h
theorem findAsking_pair {T : TypeId} (hT : PairEq T) (w : World) (p : Int × Int) : ∀ (es : List MapEntry) (i : Nat), (∀ e ∈ es, ∃ a', e.key = pairV a') →
    ((Instr.findAsking T (pairV p) es i).run Try.prog w = .ok none w ∧ ∀ e ∈ es, e.key ≠ pairV p) ∨ ∃ j e, (Instr.findAsking T (pairV p) es i).run Try.prog w = .ok (some (i + j, e.val)) w ∧ es[j]? = some e ∧ e.key = pairV p
  | [], i, _ => .inl ⟨by simp [Instr.findAsking], by simp⟩
  | e :: es, i, h => by
    obtain ⟨q, hq⟩ := h e (by simp)
    have he := hT w p q
    rw [← hq] at he
    cases hb : p == q
    · rw [hb] at he
      have hne : p ≠ q := by simpa using hb
      rcases findAsking_pair hT w p es (i + 1) (fun x hx => h x (by simp [hx])) with ⟨h1, h2⟩ | ⟨j, e0, h1, h2, h3⟩
      · refine .inl ⟨by simp only [Instr.findAsking, Sem.run_bind, he, Result.andThen_ok, Bool.false_eq_true, if_false]; exact h1, ?_⟩
        intro x hx
        rcases List.mem_cons.1 hx with rfl | hx
        · rw [hq]
          intro e2
          apply hne
          have h3 : q.1 = p.1 ∧ q.2 = p.2 := by simpa [pairV] using e2
          exact Prod.ext h3.1.symm h3.2.symm
        · exact h2 x hx
      · refine .inr ⟨j + 1, e0, ?_, by simpa using h2, h3⟩
        simp only [Instr.findAsking, Sem.run_bind, he, Result.andThen_ok, Bool.false_eq_true, if_false]
        rw [h1, show i + 1 + j = i + (j + 1) by omega]
    · rw [hb] at he
      have hpq : p = q := by simpa using hb
      refine .inr ⟨0, e, ?_, rfl, by rw [hq, hpq]⟩
      simp only [Instr.findAsking, Sem.run_bind, he, Result.andThen_ok, if_true, Sem.run_pure]
      rfl
theorem pairV_inj (a a' : Int × Int) (h : pairV a = pairV a') : a = a' := by
  have h3 : a.1 = a'.1 ∧ a.2 = a'.2 := by simpa [pairV] using h
  exact Prod.ext h3.1 h3.2
theorem pairV_stays (w : World) (a : Int × Int) : (Instr.keyThatStays (pairV a) (pairV a)).run Try.prog w = .ok (pairV a) w := by
  simp [Instr.keyThatStays, Instr.sameBits, pairV]
theorem keys112 : KeyK 112 pairV where
  inj := pairV_inj
  check := fun w em a => by kernel_rfl
  find := fun w a es h => by
    have hn : (Instr.findKey 112 (pairV a) es).run Try.prog w = (Instr.findAsking 112 (pairV a) es 0).run Try.prog w ∨ es = [] := by
      cases es with
      | nil => exact .inr rfl
      | cons e es =>
        obtain ⟨q, hq⟩ := h e (by simp)
        left
        simp [Instr.findKey, run_underlying Try.underlying112, Instr.findNow, Instr.sameNow, Result.andThen]
    rcases hn with hn | rfl
    · rw [hn]
      have := findAsking_pair pairEq112 w a es 0 h
      simpa using this
    · refine .inl ⟨?_, by simp⟩
      simp [Instr.findKey, run_underlying Try.underlying112, Instr.findNow, Result.andThen]
  stays := pairV_stays
theorem keys136 : KeyK 136 pairV where
  inj := pairV_inj
  check := fun w em a => by kernel_rfl
  find := fun w a es h => by
    have hn : (Instr.findKey 136 (pairV a) es).run Try.prog w = (Instr.findAsking 136 (pairV a) es 0).run Try.prog w ∨ es = [] := by
      cases es with
      | nil => exact .inr rfl
      | cons e es =>
        obtain ⟨q, hq⟩ := h e (by simp)
        left
        simp [Instr.findKey, run_underlying Try.underlying136, Instr.findNow, Instr.sameNow, Result.andThen]
    rcases hn with hn | rfl
    · rw [hn]
      have := findAsking_pair pairEq136 w a es 0 h
      simpa using this
    · refine .inl ⟨?_, by simp⟩
      simp [Instr.findKey, run_underlying Try.underlying136, Instr.findNow, Result.andThen]
  stays := pairV_stays
theorem keys3 : KeyK 3 (Value.int .i64) where
  inj := fun a a' h => by injection h
  check := fun w em a => run_checkKey Try.underlying3 (by simp [IsKey]) em 9999
  find := fun w a es h => by
    have hks : ∀ y ∈ es, IsKey (.int .i64) y.key := fun y hy => by
      obtain ⟨a', ha⟩ := h y hy
      rw [ha]; simp [IsKey]
    rcases findNow_spec (d := .int .i64) (k := .int .i64 a) (by simp [IsKey]) es 0 hks with ⟨h1, h2⟩ | ⟨j, e0, h1, h2, h3⟩
    · exact .inl ⟨run_findKey Try.underlying3 h1, h2⟩
    · exact .inr ⟨j, e0, by simpa using run_findKey Try.underlying3 h1, h2, h3⟩
  stays := fun w a => run_keyThatStays (d := .int .i64) (by simp [IsKey])
end Go.Proofs.Ytmpcoclgcldclaa
