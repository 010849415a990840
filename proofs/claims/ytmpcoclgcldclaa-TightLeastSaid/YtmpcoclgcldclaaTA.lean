/- Words for the walk of tight's ordered: what lies in memory while states are numbered. -/
import Derived.Test.YtmpcoclgcldclaaX
import Derived.Test.YtmpcoclgcldclaaY
import Derived.Test.YtmpcoclgcldclaaTP
namespace Go.Proofs.Ytmpcoclgcldclaa
open Go.RowKit

/-- the classes of the states that have been come to -/
def keyL (cls L : List Int) : List Int := L.map fun s => gI cls s.toNat
def keyF (cls L : List Int) (c : Int) : Option Value := if c ∈ keyL cls L then some (.int .i64 (((keyL cls L).idxOf c : Nat) : Int)) else none
theorem keyL_len (cls L : List Int) : (keyL cls L).length = L.length := by simp [keyL]
theorem keyL_at {cls L : List Int} {j : Nat} (hj : j < L.length) : gI (keyL cls L) j = gI cls (gI L j).toNat := by
  unfold gI keyL
  rw [List.getD_eq_getElem?_getD, List.getElem?_map, List.getElem?_eq_getElem hj, List.getD_eq_getElem?_getD (l := L), List.getElem?_eq_getElem hj]
  rfl
theorem keyF_yes {cls L : List Int} {c : Int} (h : c ∈ keyL cls L) : ∃ j : Nat, j < L.length ∧ gI cls (gI L j).toNat = c ∧ (keyF cls L c).getD (.int .i64 0) = .int .i64 j ∧ (keyF cls L c).isSome = true := by
  have hl := List.idxOf_lt_length_iff.2 h
  refine ⟨(keyL cls L).idxOf c, by rw [← keyL_len cls L]; exact hl, ?_, ?_, ?_⟩
  · rw [← keyL_at (by rw [← keyL_len cls L]; exact hl)]
    unfold gI
    rw [List.getD_eq_getElem?_getD, List.getElem?_eq_getElem hl, List.getElem_idxOf]
    rfl
  · unfold keyF; rw [if_pos h]; rfl
  · unfold keyF; rw [if_pos h]; rfl
theorem keyF_no {cls L : List Int} {c : Int} (h : c ∉ keyL cls L) : (∀ j : Nat, j < L.length → gI cls (gI L j).toNat ≠ c) ∧ (keyF cls L c).getD (.int .i64 0) = .int .i64 0 ∧ (keyF cls L c).isSome = false := by
  refine ⟨fun j hj e => h ?_, ?_, ?_⟩
  · unfold keyL
    exact List.mem_map.2 ⟨gI L j, gI_mem hj, e⟩
  · unfold keyF; rw [if_neg h]; rfl
  · unfold keyF; rw [if_neg h]; rfl
theorem keyF_grow {cls L : List Int} {q : Int} (h : gI cls q.toNat ∉ keyL cls L) : ∀ c, (if c = gI cls q.toNat then some (Value.int .i64 ((L.length : Nat) : Int)) else keyF cls L c) = keyF cls (L ++ [q]) c := by
  intro c
  have e : keyL cls (L ++ [q]) = keyL cls L ++ [gI cls q.toNat] := by simp [keyL]
  unfold keyF
  rw [e]
  by_cases hc : c = gI cls q.toNat
  · subst hc
    rw [if_pos rfl, if_pos (by simp), List.idxOf_append, if_neg h]
    simp [keyL_len]
  · rw [if_neg hc]
    by_cases hm : c ∈ keyL cls L
    · rw [if_pos hm, if_pos (by simp [hm]), List.idxOf_append, if_pos hm]
    · rw [if_neg hm, if_neg (by simp [hm, hc])]
theorem keyF_one (cls : List Int) (s : Int) : ∀ c, (if c = gI cls s.toNat then some (Value.int .i64 0) else none) = keyF cls [s] c := by
  intro c
  unfold keyF keyL
  by_cases hc : c = gI cls s.toNat
  · subst hc; simp
  · rw [if_neg hc, if_neg (by simp [hc])]
/-- the automaton's variable, the result's, the one that is made and its rows, the states that are to be gone through, the map of classes -/
structure OrdW (w wi : World) (d : D) (An : Option Addr) (cn : Nat) (Aa : Option Addr) (ca : Nat) (gm : Nat) (AN : Option Addr) (cN : Nat) (N : List Int) (AA : Option Addr) (cA : Nat) (A : List Bool) (TA : Option Addr) (tc : Nat) (L : List Int) (n : Nat) (f : Int → Option Value) : Prop where
  box : BlkD wi w.heap.size d An cn Aa ca
  res : Blk wi (w.heap.size + 1) 25 #[.int .i64 0, .int .i64 0, .slice none 0 0, .slice none 0 0]
  out : Blk wi (w.heap.size + 2) 25 #[.int .i64 d.K, .int .i64 0, .slice AN N.length cN, .slice AA A.length cA]
  next : wi.ownsRow w.heap.size 3 1 (.slice AN N.length cN) N.length (N.map (Value.int .i64))
  acc : wi.ownsRow w.heap.size 4 1 (.slice AA A.length cA) A.length (A.map Value.bool)
  todo : wi.ownsRow w.heap.size 3 1 (.slice TA L.length tc) L.length (L.map (Value.int .i64))
  sep : ∀ k, (Value.slice AN N.length cN).ownBlock = some k → (Value.slice TA L.length tc).ownBlock ≠ some k
  map : MapF wi gm n (Value.int .i64) f
  mlo : w.heap.size ≤ gm
  bel : Below w.heap.size w wi
section
variable {w wi w3 : World} {d : D} {An Aa AN AA TA : Option Addr} {cn ca gm cN cA tc n : Nat} {N L : List Int} {A : List Bool} {f : Int → Option Value}
theorem OrdW.up (h : OrdW w wi d An cn Aa ca gm AN cN N AA cA A TA tc L n f) (hb : Below wi.heap.size wi w3) : OrdW w w3 d An cn Aa ca gm AN cN N AA cA A TA tc L n f where
  box := blk_below h.box hb
  res := blk_below h.res hb
  out := blk_below h.out hb
  next := own_below h.next hb
  acc := own_below h.acc hb
  todo := own_below h.todo hb
  sep := h.sep
  map := h.map.below hb h.map.lt
  mlo := h.mlo
  bel := bel_step h.bel hb
theorem OrdW.alloc (h : OrdW w wi d An cn Aa ca gm AN cN N AA cA A TA tc L n f) (o : Obj) : OrdW w (wi.alloc o) d An cn Aa ca gm AN cN N AA cA A TA tc L n f := h.up (bel_new wi o)
theorem OrdW.drew (h : OrdW w wi d An cn Aa ca gm AN cN N AA cA A TA tc L n f) : OrdW w wi.drew d An cn Aa ca gm AN cN N AA cA A TA tc L n f := ⟨h.box, h.res, h.out, h.next, h.acc, h.todo, h.sep, h.map, h.mlo, h.bel.drew⟩
/-- the row of what is accepted has grown -/
theorem OrdW.accGrow {AA' : Option Addr} {cA' : Nat} {b : Bool} (h : OrdW w wi d An cn Aa ca gm AN cN N AA cA A TA tc L n f) (ho : w3.ownsRow w.heap.size 4 1 (.slice AA' (A.length + 1) cA') (A.length + 1) (A.map Value.bool ++ [.bool b])) (hg : wi.grownBy w3 (Value.slice AA A.length cA).ownBlock) :
    OrdW w (w3.setCell ⟨w.heap.size + 2, 3, none⟩ (.slice AA' (A.length + 1) cA')) d An cn Aa ca gm AN cN N AA' cA' (A ++ [b]) TA tc L n f := by
  have ht := Touch.ofGrown hg
  have e : (A ++ [b]).length = A.length + 1 := by simp
  have ne1 : ∀ {g : Nat} {cs : Array Value}, Blk wi g 25 cs → ¬ (some g = (Value.slice AA A.length cA).ownBlock) := fun hb e => own_ne_blk h.acc hb (by decide) e.symm
  have hout : Blk w3 (w.heap.size + 2) 25 #[.int .i64 d.K, .int .i64 0, .slice AN N.length cN, .slice AA A.length cA] := h.out.touch ht (ne1 h.out)
  have hnext : w3.ownsRow w.heap.size 3 1 (.slice AN N.length cN) N.length (N.map (Value.int .i64)) := own_touch h.next ht fun k hk e => own_ne_own h.acc h.next (by decide) hk e.symm
  have htodo : w3.ownsRow w.heap.size 3 1 (.slice TA L.length tc) L.length (L.map (Value.int .i64)) := own_touch h.todo ht fun k hk e => own_ne_own h.acc h.todo (by decide) hk e.symm
  have hmap : MapF w3 gm n (Value.int .i64) f := h.map.touch ht fun e => h.map.ne_own h.acc e.symm
  refine ⟨(h.box.touch ht (ne1 h.box)).far (by show w.heap.size ≠ w.heap.size + 2; omega) _, (h.res.touch ht (ne1 h.res)).far (by show w.heap.size + 1 ≠ w.heap.size + 2; omega) _, ?_, ownsRow_setCell_other (a := ⟨w.heap.size + 2, 3, none⟩) hnext (own_ne_blk hnext hout (by decide)) _, ?_, ownsRow_setCell_other (a := ⟨w.heap.size + 2, 3, none⟩) htodo (own_ne_blk htodo hout (by decide)) _, h.sep, hmap.far (hmap.ne_blk hout) _, h.mlo, ?_⟩
  · rw [e]; exact hout.set_ 3 _
  · rw [e, List.map_append]; exact ownsRow_setCell_other (a := ⟨w.heap.size + 2, 3, none⟩) ho (own_ne_blk ho hout (by decide)) _
  · exact Below.setCell (h.bel.trans (ht.toBelow h.bel.size fun k hk e => by have := (h.acc.lt k e.symm).1; omega)) (show w.heap.size ≤ (⟨w.heap.size + 2, 3, none⟩ : Addr).block by show w.heap.size ≤ w.heap.size + 2; omega) _
/-- the states that are to be gone through have grown -/
theorem OrdW.todoGrow {TA' : Option Addr} {tc' : Nat} {q : Int} (h : OrdW w wi d An cn Aa ca gm AN cN N AA cA A TA tc L n f) (ho : w3.ownsRow w.heap.size 3 1 (.slice TA' (L.length + 1) tc') (L.length + 1) (L.map (Value.int .i64) ++ [.int .i64 q])) (hg : wi.grownBy w3 (Value.slice TA L.length tc).ownBlock)
    (hat : (Value.slice TA' (L.length + 1) tc').ownBlock = (Value.slice TA L.length tc).ownBlock ∨ (Value.slice TA' (L.length + 1) tc').ownBlock = some wi.heap.size) :
    OrdW w w3 d An cn Aa ca gm AN cN N AA cA A TA' tc' (L ++ [q]) n f := by
  have ht := Touch.ofGrown hg
  have e : (L ++ [q]).length = L.length + 1 := by simp
  have ne1 : ∀ {g : Nat} {cs : Array Value}, Blk wi g 25 cs → ¬ (some g = (Value.slice TA L.length tc).ownBlock) := fun hb e => own_ne_blk h.todo hb (by decide) e.symm
  refine ⟨h.box.touch ht (ne1 h.box), h.res.touch ht (ne1 h.res), h.out.touch ht (ne1 h.out), own_touch h.next ht (fun k hk e => h.sep k hk e.symm), own_touch h.acc ht (fun k hk e => own_ne_own h.todo h.acc (by decide) hk e.symm), by rw [e, List.map_append]; exact ho, ?_, h.map.touch ht (fun e => h.map.ne_own h.todo e.symm), h.mlo, h.bel.trans (ht.toBelow h.bel.size fun k hk e => by have := (h.todo.lt k e.symm).1; omega)⟩
  intro k hk hk'
  rw [e] at hk'
  rcases hat with h1 | h1
  · exact h.sep k hk (h1 ▸ hk')
  · have := (h.next.lt k hk).2
    rw [h1] at hk'
    injection hk' with hk'
    omega
/-- the row of what is come to has grown -/
theorem OrdW.nextGrow {AN' : Option Addr} {cN' : Nat} {q : Int} (h : OrdW w wi d An cn Aa ca gm AN cN N AA cA A TA tc L n f) (ho : w3.ownsRow w.heap.size 3 1 (.slice AN' (N.length + 1) cN') (N.length + 1) (N.map (Value.int .i64) ++ [.int .i64 q])) (hg : wi.grownBy w3 (Value.slice AN N.length cN).ownBlock)
    (hat : (Value.slice AN' (N.length + 1) cN').ownBlock = (Value.slice AN N.length cN).ownBlock ∨ (Value.slice AN' (N.length + 1) cN').ownBlock = some wi.heap.size) :
    OrdW w (w3.setCell ⟨w.heap.size + 2, 2, none⟩ (.slice AN' (N.length + 1) cN')) d An cn Aa ca gm AN' cN' (N ++ [q]) AA cA A TA tc L n f := by
  have ht := Touch.ofGrown hg
  have e : (N ++ [q]).length = N.length + 1 := by simp
  have ne1 : ∀ {g : Nat} {cs : Array Value}, Blk wi g 25 cs → ¬ (some g = (Value.slice AN N.length cN).ownBlock) := fun hb e => own_ne_blk h.next hb (by decide) e.symm
  have hout : Blk w3 (w.heap.size + 2) 25 #[.int .i64 d.K, .int .i64 0, .slice AN N.length cN, .slice AA A.length cA] := h.out.touch ht (ne1 h.out)
  have hacc : w3.ownsRow w.heap.size 4 1 (.slice AA A.length cA) A.length (A.map Value.bool) := own_touch h.acc ht fun k hk e => own_ne_own h.next h.acc (by decide) hk e.symm
  have htodo : w3.ownsRow w.heap.size 3 1 (.slice TA L.length tc) L.length (L.map (Value.int .i64)) := own_touch h.todo ht fun k hk e => h.sep k e.symm hk
  have hmap : MapF w3 gm n (Value.int .i64) f := h.map.touch ht fun e => h.map.ne_own h.next e.symm
  refine ⟨(h.box.touch ht (ne1 h.box)).far (by show w.heap.size ≠ w.heap.size + 2; omega) _, (h.res.touch ht (ne1 h.res)).far (by show w.heap.size + 1 ≠ w.heap.size + 2; omega) _, ?_, ?_, ownsRow_setCell_other (a := ⟨w.heap.size + 2, 2, none⟩) hacc (own_ne_blk hacc hout (by decide)) _, ownsRow_setCell_other (a := ⟨w.heap.size + 2, 2, none⟩) htodo (own_ne_blk htodo hout (by decide)) _, ?_, hmap.far (hmap.ne_blk hout) _, h.mlo, ?_⟩
  · rw [e]; exact hout.set_ 2 _
  · rw [e, List.map_append]; exact ownsRow_setCell_other (a := ⟨w.heap.size + 2, 2, none⟩) ho (own_ne_blk ho hout (by decide)) _
  · intro k hk hk'
    rw [e] at hk
    rcases hat with h1 | h1
    · exact h.sep k (h1 ▸ hk) hk'
    · have := (h.todo.lt k hk').2
      rw [h1] at hk
      injection hk with hk
      omega
  · exact Below.setCell (h.bel.trans (ht.toBelow h.bel.size fun k hk e => by have := (h.next.lt k e.symm).1; omega)) (show w.heap.size ≤ (⟨w.heap.size + 2, 2, none⟩ : Addr).block by show w.heap.size ≤ w.heap.size + 2; omega) _
/-- the map has been written -/
theorem OrdW.mapPut {n' : Nat} {f' : Int → Option Value} (h : OrdW w wi d An cn Aa ca gm AN cN N AA cA A TA tc L n f) (hm : MapF w3 gm n' (Value.int .i64) f') (ht : Touch (fun j => j = gm) wi w3) : OrdW w w3 d An cn Aa ca gm AN cN N AA cA A TA tc L n' f' :=
  ⟨h.box.touch ht (Ne.symm (h.map.ne_blk h.box)), h.res.touch ht (Ne.symm (h.map.ne_blk h.res)), h.out.touch ht (Ne.symm (h.map.ne_blk h.out)), own_touch h.next ht (fun k hk e => h.map.ne_own h.next (by rw [hk, e])), own_touch h.acc ht (fun k hk e => h.map.ne_own h.acc (by rw [hk, e])), own_touch h.todo ht (fun k hk e => h.map.ne_own h.todo (by rw [hk, e])), h.sep, hm, h.mlo, h.bel.trans (ht.toBelow h.bel.size fun k hk e => by have := h.mlo; omega)⟩
end
end Go.Proofs.Ytmpcoclgcldclaa
