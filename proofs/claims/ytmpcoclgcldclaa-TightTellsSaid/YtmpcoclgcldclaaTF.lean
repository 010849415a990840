/- Words for the walk of the document's Tight: what lies in memory while states are numbered. -/
import Derived.Test.YtmpcoclgcldclaaTE
namespace Go.Proofs.Ytmpcoclgcldclaa
open Go.RowKit

/-- the automaton's variable, the result's, the table, and the three rows that grow -/
structure RTW (w wi : World) (d : D) (An : Option Addr) (cn : Nat) (Aa : Option Addr) (ca : Nat) (AU : Option Addr) (m cU : Nat) (U : List Bool) (AN : Option Addr) (cN : Nat) (N : List Int) (AA : Option Addr) (cA : Nat) (A : List Bool) (TA : Option Addr) (tc : Nat) (L : List Int) : Prop where
  box : BlkD wi w.heap.size d An cn Aa ca
  res : Blk wi (w.heap.size + 1) 25 #[.int .i64 0, .int .i64 0, .slice none 0 0, .slice none 0 0]
  tab : wi.ownsRow w.heap.size 4 1 (.slice AU m cU) m (U.map Value.bool)
  next : wi.ownsRow w.heap.size 3 1 (.slice AN N.length cN) N.length (N.map (Value.int .i64))
  acc : wi.ownsRow w.heap.size 4 1 (.slice AA A.length cA) A.length (A.map Value.bool)
  todo : wi.ownsRow w.heap.size 3 1 (.slice TA L.length tc) L.length (L.map (Value.int .i64))
  sep : ∀ k, (Value.slice AN N.length cN).ownBlock = some k → (Value.slice TA L.length tc).ownBlock ≠ some k
  sepU : ∀ k, (Value.slice AA A.length cA).ownBlock = some k → (Value.slice AU m cU).ownBlock ≠ some k
  bel : Below w.heap.size w wi
section
variable {w wi w3 : World} {d : D} {An Aa AU AN AA TA : Option Addr} {cn ca m cU cN cA tc : Nat} {N L : List Int} {A U : List Bool}
theorem RTW.up (h : RTW w wi d An cn Aa ca AU m cU U AN cN N AA cA A TA tc L) (hb : Below wi.heap.size wi w3) : RTW w w3 d An cn Aa ca AU m cU U AN cN N AA cA A TA tc L :=
  ⟨blk_below h.box hb, blk_below h.res hb, own_below h.tab hb, own_below h.next hb, own_below h.acc hb, own_below h.todo hb, h.sep, h.sepU, bel_step h.bel hb⟩
theorem RTW.alloc (h : RTW w wi d An cn Aa ca AU m cU U AN cN N AA cA A TA tc L) (o : Obj) : RTW w (wi.alloc o) d An cn Aa ca AU m cU U AN cN N AA cA A TA tc L := h.up (bel_new wi o)
theorem RTW.drewN (h : RTW w wi d An cn Aa ca AU m cU U AN cN N AA cA A TA tc L) (n : Nat) : RTW w (wi.drewN n) d An cn Aa ca AU m cU U AN cN N AA cA A TA tc L := h.up (bel_drewN (Below.refl _ _) n)
theorem RTW.drew (h : RTW w wi d An cn Aa ca AU m cU U AN cN N AA cA A TA tc L) : RTW w wi.drew d An cn Aa ca AU m cU U AN cN N AA cA A TA tc L := ⟨h.box, h.res, h.tab, h.next, h.acc, h.todo, h.sep, h.sepU, h.bel.drew⟩
theorem RTW.accGrow {AA' : Option Addr} {cA' : Nat} {b : Bool} (h : RTW w wi d An cn Aa ca AU m cU U AN cN N AA cA A TA tc L) (ho : w3.ownsRow w.heap.size 4 1 (.slice AA' (A.length + 1) cA') (A.length + 1) (A.map Value.bool ++ [.bool b])) (hg : wi.grownBy w3 (Value.slice AA A.length cA).ownBlock)
    (hat : ∀ k, (Value.slice AA' (A.length + 1) cA').ownBlock = some k → (Value.slice AA A.length cA).ownBlock = some k ∨ wi.heap.size ≤ k) :
    RTW w w3 d An cn Aa ca AU m cU U AN cN N AA' cA' (A ++ [b]) TA tc L := by
  have ht := Touch.ofGrown hg
  have e : (A ++ [b]).length = A.length + 1 := by simp
  have ne1 : ∀ {g : Nat} {cs : Array Value}, Blk wi g 25 cs → ¬ (some g = (Value.slice AA A.length cA).ownBlock) := fun hb e => own_ne_blk h.acc hb (by decide) e.symm
  refine ⟨h.box.touch ht (ne1 h.box), h.res.touch ht (ne1 h.res), own_touch h.tab ht (fun k hk e => h.sepU k e.symm hk), own_touch h.next ht (fun k hk e => own_ne_own h.acc h.next (by decide) hk e.symm), by rw [e, List.map_append]; exact ho, own_touch h.todo ht (fun k hk e => own_ne_own h.acc h.todo (by decide) hk e.symm), h.sep, ?_, h.bel.trans (ht.toBelow h.bel.size fun k hk e => by have := (h.acc.lt k e.symm).1; omega)⟩
  intro k hk hk'
  rw [e] at hk
  rcases hat k hk with h1 | h1
  · exact h.sepU k h1 hk'
  · have := (h.tab.lt k hk').2
    omega
theorem RTW.todoGrow {TA' : Option Addr} {tc' : Nat} {q : Int} (h : RTW w wi d An cn Aa ca AU m cU U AN cN N AA cA A TA tc L) (ho : w3.ownsRow w.heap.size 3 1 (.slice TA' (L.length + 1) tc') (L.length + 1) (L.map (Value.int .i64) ++ [.int .i64 q])) (hg : wi.grownBy w3 (Value.slice TA L.length tc).ownBlock)
    (hat : ∀ k, (Value.slice TA' (L.length + 1) tc').ownBlock = some k → (Value.slice TA L.length tc).ownBlock = some k ∨ wi.heap.size ≤ k) :
    RTW w w3 d An cn Aa ca AU m cU U AN cN N AA cA A TA' tc' (L ++ [q]) := by
  have ht := Touch.ofGrown hg
  have e : (L ++ [q]).length = L.length + 1 := by simp
  have ne1 : ∀ {g : Nat} {cs : Array Value}, Blk wi g 25 cs → ¬ (some g = (Value.slice TA L.length tc).ownBlock) := fun hb e => own_ne_blk h.todo hb (by decide) e.symm
  refine ⟨h.box.touch ht (ne1 h.box), h.res.touch ht (ne1 h.res), own_touch h.tab ht (fun k hk e => own_ne_own h.todo h.tab (by decide) hk e.symm), own_touch h.next ht (fun k hk e => h.sep k hk e.symm), own_touch h.acc ht (fun k hk e => own_ne_own h.todo h.acc (by decide) hk e.symm), by rw [e, List.map_append]; exact ho, ?_, h.sepU, h.bel.trans (ht.toBelow h.bel.size fun k hk e => by have := (h.todo.lt k e.symm).1; omega)⟩
  intro k hk hk'
  rw [e] at hk'
  rcases hat k hk' with h1 | h1
  · exact h.sep k hk h1
  · have := (h.next.lt k hk).2
    omega
theorem RTW.nextGrow {AN' : Option Addr} {cN' : Nat} {q : Int} (h : RTW w wi d An cn Aa ca AU m cU U AN cN N AA cA A TA tc L) (ho : w3.ownsRow w.heap.size 3 1 (.slice AN' (N.length + 1) cN') (N.length + 1) (N.map (Value.int .i64) ++ [.int .i64 q])) (hg : wi.grownBy w3 (Value.slice AN N.length cN).ownBlock)
    (hat : ∀ k, (Value.slice AN' (N.length + 1) cN').ownBlock = some k → (Value.slice AN N.length cN).ownBlock = some k ∨ wi.heap.size ≤ k) :
    RTW w w3 d An cn Aa ca AU m cU U AN' cN' (N ++ [q]) AA cA A TA tc L := by
  have ht := Touch.ofGrown hg
  have e : (N ++ [q]).length = N.length + 1 := by simp
  have ne1 : ∀ {g : Nat} {cs : Array Value}, Blk wi g 25 cs → ¬ (some g = (Value.slice AN N.length cN).ownBlock) := fun hb e => own_ne_blk h.next hb (by decide) e.symm
  refine ⟨h.box.touch ht (ne1 h.box), h.res.touch ht (ne1 h.res), own_touch h.tab ht (fun k hk e => own_ne_own h.next h.tab (by decide) hk e.symm), by rw [e, List.map_append]; exact ho, own_touch h.acc ht (fun k hk e => own_ne_own h.next h.acc (by decide) hk e.symm), own_touch h.todo ht (fun k hk e => h.sep k e.symm hk), ?_, h.sepU, h.bel.trans (ht.toBelow h.bel.size fun k hk e => by have := (h.next.lt k e.symm).1; omega)⟩
  intro k hk hk'
  rw [e] at hk
  rcases hat k hk with h1 | h1
  · exact h.sep k h1 hk'
  · have := (h.todo.lt k hk').2
    omega
end
end Go.Proofs.Ytmpcoclgcldclaa
