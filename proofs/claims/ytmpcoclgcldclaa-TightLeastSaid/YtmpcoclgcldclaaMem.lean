/- Words for memory: slices that read as lists, over the program of this seat. -/
import Derived.Test.YtmpcoclgcldclaaProg
import Derived.WalkKit
import Derived.WalkLawsBesides
import Derived.WalkSpells
import Derived.Lib.Hide
namespace Go.Proofs.Ytmpcoclgcldclaa
open Go.RowKit

/-- The slice over A reads as xs (cells of size 1) in w, in a block below B. -/
def Rd (w : World) (B : Nat) (A : Option Addr) (xs : List Value) : Prop :=
  0 < xs.length → ∃ b o, A = some ⟨b, o, none⟩ ∧ b < B ∧ ∀ j u, xs[j]? = some u → w.cell? ⟨b, o + j, none⟩ = some u

section
variable {w w' : World} {B B' : Nat} {A : Option Addr} {xs : List Value}
theorem Rd.nil_ : Rd w B A [] := fun h => absurd h (by simp)
theorem Rd.at_ {k : Nat} (h : Rd w B A xs) (hk : k < xs.length) :
    ∃ b o, A = some ⟨b, o, none⟩ ∧ b < B ∧ w.cell? ⟨b, o + k, none⟩ = some xs[k] := by
  obtain ⟨b, o, e, hb, hc⟩ := h (by omega)
  exact ⟨b, o, e, hb, hc k _ (List.getElem?_eq_getElem hk)⟩
theorem Rd.keep (h : Rd w B A xs) (hk : ∀ p : Addr, p.block < B → w'.cell? p = w.cell? p) : Rd w' B A xs := fun hn => by
  obtain ⟨b, o, e, hb, hc⟩ := h hn
  exact ⟨b, o, e, hb, fun j u hu => (hk ⟨b, o + j, none⟩ hb).trans (hc j u hu)⟩
theorem Rd.more (h : Rd w B A xs) (hB : B ≤ B') : Rd w B' A xs := fun hn => by
  obtain ⟨b, o, e, hb, hc⟩ := h hn
  exact ⟨b, o, e, by omega, hc⟩
theorem Rd.below (h : Rd w B A xs) (hb : Below B w w') : Rd w' B A xs := h.keep fun _ hp => hb.cell hp
theorem Rd.drewN (h : Rd w B A xs) (k : Nat) : Rd (w.drewN k) B A xs := h
theorem Rd.drew (h : Rd w B A xs) : Rd w.drew B A xs := h
theorem Rd.alloc (h : Rd w B A xs) (hB : B ≤ w.heap.size) (o : Obj) : Rd (w.alloc o) B A xs := h.keep fun p hp => World.cell?_alloc_lt w o p (by omega)
theorem Rd.setCell (h : Rd w B A xs) {p : Addr} (hB : B ≤ p.block) (u : Value) : Rd (w.setCell p u) B A xs :=
  h.keep fun q hq => World.cell?_setCell_other w p q u (fun e => by subst e; omega)
theorem Rd.grown (h : Rd w B A xs) {row : Option Nat} (hg : w.grownBy w' row) (hB : B ≤ w.heap.size) (hr : ∀ g, row = some g → B ≤ g) : Rd w' B A xs :=
  h.keep fun p hp => World.cell?_of_block (hg.block p.block (by omega) (fun e => by have := hr _ e.symm; omega))
/-- an int's cell: the number under a letter, its equation behind a name -/
theorem Rd.int_at {ks : List Int} {k : Nat} (h : Rd w B A (ks.map (Value.int .i64))) (hk : k < ks.length) :
    ∃ b o x, A = some ⟨b, o, none⟩ ∧ b < B ∧ w.cell? ⟨b, o + k, none⟩ = some (.int .i64 x) ∧ ks[k]? = some x := by
  obtain ⟨b, o, e, hb, hc⟩ := h.at_ (k := k) (by simpa using hk)
  exact ⟨b, o, ks[k], e, hb, by simpa using hc, List.getElem?_eq_getElem hk⟩
theorem Rd.int_ix {ks : List Int} {i : Int} (h : Rd w B A (ks.map (Value.int .i64))) (h0 : 0 ≤ i) (hk : i < ks.length) :
    ∃ b o x, A = some ⟨b, o, none⟩ ∧ b < B ∧ w.cell? ⟨b, o + i.toNat, none⟩ = some (.int .i64 x) ∧ ks.getD i.toNat 0 = x := by
  obtain ⟨b, o, x, e, hb, hc, hx⟩ := h.int_at (k := i.toNat) (by omega)
  exact ⟨b, o, x, e, hb, hc, by rw [List.getD_eq_getElem?_getD, hx]; rfl⟩
theorem Rd.bool_at {ks : List Bool} {k : Nat} (h : Rd w B A (ks.map Value.bool)) (hk : k < ks.length) :
    ∃ b o x, A = some ⟨b, o, none⟩ ∧ b < B ∧ w.cell? ⟨b, o + k, none⟩ = some (.bool x) ∧ ks[k]? = some x := by
  obtain ⟨b, o, e, hb, hc⟩ := h.at_ (k := k) (by simpa using hk)
  exact ⟨b, o, ks[k], e, hb, by simpa using hc, List.getElem?_eq_getElem hk⟩
theorem Rd.bool_ix {ks : List Bool} {i : Int} (h : Rd w B A (ks.map Value.bool)) (h0 : 0 ≤ i) (hk : i < ks.length) :
    ∃ b o x, A = some ⟨b, o, none⟩ ∧ b < B ∧ w.cell? ⟨b, o + i.toNat, none⟩ = some (.bool x) ∧ ks.getD i.toNat false = x := by
  obtain ⟨b, o, x, e, hb, hc, hx⟩ := h.bool_at (k := i.toNat) (by omega)
  exact ⟨b, o, x, e, hb, hc, by rw [List.getD_eq_getElem?_getD, hx]; rfl⟩
end
theorem bcell {W w1 : World} (hb : Below W.heap.size W w1) :
    (∀ b o, b < W.heap.size → w1.cell? ⟨b, o, none⟩ = W.cell? ⟨b, o, none⟩) ∧ (∀ b o, b < W.heap.size → w1.frozen? ⟨b, o, none⟩ = W.frozen? ⟨b, o, none⟩) :=
  ⟨fun b o h => hb.cell (p := ⟨b, o, none⟩) h, fun b o h => hb.frozen (p := ⟨b, o, none⟩) h⟩
theorem ret_int {k : IntKind} {a b : Int} (h : a = b) : Ending.returned (.int k a) = .returned (.int k b) := by rw [h]
theorem ret_bool {a b : Bool} (h : a = b) : Ending.returned (.bool a) = .returned (.bool b) := by rw [h]
end Go.Proofs.Ytmpcoclgcldclaa
