/- How the laws' arguments read: automata, slices of numbers, numbers, texts. -/
import Derived.Test.YtmpcoclgcldclaaRows
import Derived.Test.YtmpcoclgcldclaaK
import Derived.ProofKit
import Derived.OpenShut
import Derived.ShutString
import Derived.ChangeOld
import Derived.Deep.Grids
import Derived.Lib.SmallJoins
namespace Go.Proofs.Ytmpcoclgcldclaa
open Go.ChangeShapes Go.WideShapes Go.ChangeAt Go.RowKit Go.Joins Go.Deep
open Go.ChangeMaps (open_string shut_string)

theorem Try.own : ownKnob Try.prog.godebug = none := by kernel_rfl
theorem Try.laidOut : laidOutB Try.prog = true := by kernel_rfl
theorem Try.cells25 : Try.prog.cellsOf 25 = 4 := by kernel_rfl
theorem Try.cells3 : Try.prog.cellsOf 3 = 1 := by kernel_rfl
theorem Try.cells4 : Try.prog.cellsOf 4 = 1 := by kernel_rfl

theorem rd_of_cells {w : World} {a : Addr} {xs : List Value} (h : ∀ j u, xs[j]? = some u → w.cell? (a.add j) = some u) : Rd w w.heap.size (some a) xs := by
  intro hl
  have h0 := h 0 _ (List.getElem?_eq_getElem hl)
  obtain ⟨b, o, s⟩ := a
  have ha : (⟨b, o, s⟩ : Addr).add 0 = ⟨b, o, s⟩ := by simp [Addr.add]
  rw [ha] at h0
  have hs : s = none := by
    cases s with
    | none => rfl
    | some x => simp only [World.cell?, Option.isSome_some, if_true] at h0; split at h0 <;> cases h0
  subst hs
  refine ⟨b, o, rfl, World.block_lt_of_cell? w _ h0, fun j u hu => ?_⟩
  have := h j u hu
  rwa [Addr.add_lit] at this

section
variable {H : Type} {enc : TypeId × Value → H} {w : World} {base : Nat} {held : Bool}
/-- a slice of ints that came in -/
theorem ints_read {fuel : Nat} {v : Value} {x : DataW H × List MemPlace} (h : DataW.trod enc Try.prog w base (fun _ => true) held fuel 22 [v] = some x) :
    ∃ (A : Option Addr) (c : Nat) (xs : List Int), v = .slice A xs.length c ∧ xs.length ≤ 9223372036854775807 ∧ Rd w w.heap.size A (xs.map (Value.int .i64)) ∧ ∀ n ∈ xs, (Lit.int .i64 n).wf = true := by
  rcases open_ints Try.underlying22 Try.underlying3 Try.cells3 h with ⟨hcs, _⟩ | ⟨a, l, c, zs, hcs, _, hl, hm, hz, _, hcell, hwz⟩
  · refine ⟨none, 0, [], by simpa using hcs, by simp, Rd.nil_, by simp⟩
  · simp only [if_true] at hz
    have hlen : (zs.take l).length = l := by rw [List.length_take]; omega
    refine ⟨some a, c, zs.take l, by rw [hlen]; simpa using hcs, by rw [hlen]; unfold maxLen at hm; omega, rd_of_cells fun j u hu => ?_, fun n hn => hwz n (List.mem_of_mem_take hn)⟩
    have hj : j < (zs.take l).length := by have := (List.getElem?_eq_some_iff.1 hu).1; simpa using this
    rw [hlen] at hj
    rw [hcell j (by omega)]
    rw [List.getElem?_map, List.getElem?_take_of_lt hj, List.getElem?_eq_getElem (show j < zs.length by omega)] at hu
    rw [List.getD_eq_getElem?_getD, List.getElem?_eq_getElem (show j < zs.length by omega)]
    simpa using hu
/-- a slice of bools that came in -/
theorem bools_read {fuel : Nat} {v : Value} {x : DataW H × List MemPlace} (h : DataW.trod enc Try.prog w base (fun _ => true) held fuel 23 [v] = some x) :
    ∃ (A : Option Addr) (c : Nat) (xs : List Bool), v = .slice A xs.length c ∧ xs.length ≤ 9223372036854775807 ∧ Rd w w.heap.size A (xs.map Value.bool) := by
  rcases open_bools Try.underlying23 Try.underlying4 Try.cells4 h with ⟨hcs, _⟩ | ⟨a, l, c, B, hcs, _, hl, hm, _, hcell⟩
  · refine ⟨none, 0, [], by simpa using hcs, by simp, Rd.nil_⟩
  · have hlen : ((List.range l).map B).length = l := by simp
    refine ⟨some a, c, (List.range l).map B, by rw [hlen]; simpa using hcs, by rw [hlen]; unfold maxLen at hm; omega, rd_of_cells fun j u hu => ?_⟩
    have hj : j < l := by have := (List.getElem?_eq_some_iff.1 hu).1; simpa using this
    rw [hcell j (by omega)]
    rw [List.getElem?_map, List.getElem?_map, List.getElem?_range hj] at hu
    simpa using hu
/-- all that is known of an automaton that came in -/
structure DfaIn (w : World) (v : Value) (d : D) : Prop where
  ex : ∃ An cn Aa ca, v = dfaV d.K d.S An d.N.length cn Aa d.A.length ca ∧ Rd w w.heap.size An (d.N.map (Value.int .i64)) ∧ Rd w w.heap.size Aa (d.A.map Value.bool)
  ln : d.N.length ≤ 9223372036854775807
  la : d.A.length ≤ 9223372036854775807
  wk : (Lit.int .i64 d.K).wf = true
  ws : (Lit.int .i64 d.S).wf = true
  wn : ∀ n ∈ d.N, (Lit.int .i64 n).wf = true
set_option maxRecDepth 100000 in
theorem dfa_read {r : Reach} {b0 : Nat} {v : Value} {x : DataW H} {p : List MemPlace} (hv : Value.okWide Try.prog w r b0 25 v) (h : DataW.Trod enc Try.prog w base (fun _ => true) held 25 v x p) :
    ∃ d : D, DfaIn w v d := by
  obtain ⟨v0, v1, v2, v3, y0, y1, y2, y3, n, rfl, _, _, h0, h1, h2, h3⟩ := open_agg4 Try.underlying25 (by kernel_rfl) Try.cells25 hv h
  obtain ⟨K, e0, _, wk⟩ := DataW.trod_int Try.underlying3 h0
  obtain ⟨S, e1, _, ws⟩ := DataW.trod_int Try.underlying3 h1
  obtain ⟨An, cn, N, rfl, ln, rn, wn⟩ := ints_read h2
  obtain ⟨Aa, ca, A, rfl, la, ra⟩ := bools_read h3
  simp only [List.cons.injEq, and_true] at e0 e1
  subst e0 e1
  exact ⟨⟨K, S, N, A⟩, ⟨An, cn, Aa, ca, rfl, rn, ra⟩, ln, la, wk, ws, wn⟩
end
end Go.Proofs.Ytmpcoclgcldclaa
