/- Words for the walk of split's by; its closure; slices.Clone of a row of the call's own. -/
import Derived.Test.YtmpcoclgcldclaaUC
import Derived.Test.YtmpcoclgcldclaaUD
import Derived.Test.YtmpcoclgcldclaaUE
import Derived.Test.YtmpcoclgcldclaaN
import Derived.Test.YtmpcoclgcldclaaY
namespace Go.Proofs.Ytmpcoclgcldclaa
open Go.RowKit
attribute [local go_sem ↓] Go.wp_at_zero Go.wp_at_succ

theorem zeroAt22 : ∀ w, (zeroValue 22).run Try.prog w = .ok (.slice none 0 0) w := fun _ => by kernel_rfl
theorem Try.info22 : (Try.prog.info? 22).map (fun i => (i.zero, i.size, i.bytes)) = some (some (.slice none 0 0), 1, 24) := by kernel_rfl
theorem Try.enters129 : ∀ args w, (callFunc 129 args).run Try.prog w = .ok (.enter 129 args) w := enters_of Try.func129 (by kernel_rfl) rfl

/-- slices.Clone of a row of the call's own, empty or not -/
theorem cloneOwn (xs : List Int) (v : Value) (w : World) (base : Nat) (hl : xs.length ≤ 1000000000000) (ho : w.ownsRow base 3 1 v xs.length (xs.map (Value.int .i64))) :
    Calls Try.prog 83 #[v] w fun e w' => ∃ A c, e = .returned (.slice A xs.length c) ∧ w'.ownsRow w.heap.size 3 1 (.slice A xs.length c) xs.length (xs.map (Value.int .i64)) ∧ Below w.heap.size w w' := by
  by_cases h0 : 0 < xs.length
  · obtain ⟨A, c, rfl⟩ := own_form ho
    refine (clone83 xs A c w h0 hl (Rd.of_own ho (Nat.le_refl _))).mono ?_
    rintro e w' ⟨v', rfl, h1, h2⟩
    obtain ⟨A', c', rfl⟩ := own_form h1
    exact ⟨A', c', rfl, h1, h2⟩
  · obtain rfl : xs = [] := List.eq_nil_of_length_eq_zero (by omega)
    obtain ⟨A, c, rfl⟩ := own_form ho
    cases A with
    | none =>
      refine (Try.slices_Clone_int_nil 0 c w).mono ?_
      rintro e w' ⟨rfl, rfl⟩
      exact ⟨none, 0, rfl, World.ownsRow_nil _ _ _ _, Below.refl _ _⟩
    | some a =>
      refine (Try.slices_Clone_int_zero a c w).mono ?_
      rintro e w' ⟨v', rfl, h1, _, h2⟩
      obtain ⟨A', c', rfl⟩ := own_form h1
      exact ⟨A', c', rfl, h1, h2⟩

set_option maxHeartbeats 1000000 in
/-- the closure of by: is it of the new class? -/
theorem byPred_any (gb gx gs gc nc cc : Nat) (y v next : Int) (W : World) (c1 : W.cell? ⟨gb, 0, none⟩ = some (.pointer (some ⟨gs, 0, none⟩))) (c2 : W.cell? ⟨gs, 5, none⟩ = some (.slice (some ⟨gc, 0, none⟩) nc cc))
    (h0 : 0 ≤ y) (h1 : y < nc) (c3 : W.cell? ⟨gc, y.toNat, none⟩ = some (.int .i64 v)) (c4 : W.cell? ⟨gx, 0, none⟩ = some (.int .i64 next)) :
    Calls Try.prog 129 #[.int .i64 y, .pointer (some ⟨gb, 0, none⟩), .pointer (some ⟨gx, 0, none⟩)] W (Drew (.bool (v == next)) W) := by
  go_enter Try.func129, Try.ntmps129
  go_wp2_with fail
  go_quiet (fail)
  go_wp2_with fail
  go_ret
  exact ⟨rfl, nq, rfl⟩

/-- the hits by their classes -/
def HitsAre (cls Pr : List Int) (H : Int → Option LV) : Prop := ∀ c, (H c = none ∧ hitsOf cls Pr c = []) ∨ ∃ v, H c = some (v, hitsOf cls Pr c) ∧ hitsOf cls Pr c ≠ []
theorem HitsAre.init (cls : List Int) : HitsAre cls [] (fun _ => none) := fun _ => .inl ⟨rfl, rfl⟩
theorem HitsAre.add {cls Pr : List Int} {H : Int → Option LV} {s c : Int} {v : Value} (h : HitsAre cls Pr H) (hc : gI cls s.toNat = c) : HitsAre cls (Pr ++ [s]) (fun x => if x = c then some (v, hitsOf cls Pr c ++ [s]) else H x) := by
  intro x
  rw [hitsOf_snoc, hc]
  by_cases e : x = c
  · subst e
    right
    exact ⟨v, by simp, by simp⟩
  · simp only [if_neg e]
    exact h x
/-- the table of what comes to a state by a symbol -/
def BackOk (d : D) (B : List LV) : Prop := B.length = d.A.length * d.K.toNat ∧ ∀ t x : Int, inR d t → 0 ≤ x ∧ x < d.K → ∃ v, B[(t * d.K + x).toNat]? = some (v, backN d d.A.length t x)
/-- the split, its box, the hits' map -/
structure BW (w wi : World) (d : D) (An : Option Addr) (cn : Nat) (Aa : Option Addr) (ca gs : Nat) (s : SS) (gb gm : Nat) (H : Int → Option LV) : Prop where
  sw : SW w wi d An cn Aa ca gs { s with H := H }
  box : Blk wi gb 129 #[.pointer (some ⟨gs, 0, none⟩)]
  map : ∃ n, MapF wi gm n (Value.int .i64) (fun c => (H c).map Prod.fst)
  bb : w.heap.size ≤ gb
  bm : w.heap.size ≤ gm
section
variable {w wi w2 : World} {d : D} {An Aa : Option Addr} {cn ca gs gb gm : Nat} {s : SS} {H H' : Int → Option LV}
theorem BW.below (h : BW w wi d An cn Aa ca gs s gb gm H) (hb : Below wi.heap.size wi w2) : BW w w2 d An cn Aa ca gs s gb gm H := by
  obtain ⟨n, hm⟩ := h.map
  exact ⟨h.sw.below hb, blk_below h.box hb, ⟨n, hm.below hb hm.lt⟩, h.bb, h.bm⟩
theorem BW.drewN (h : BW w wi d An cn Aa ca gs s gb gm H) (n : Nat) : BW w (wi.drewN n) d An cn Aa ca gs s gb gm H := h.below (bel_drewN (Below.refl _ _) n)
theorem BW.alloc (h : BW w wi d An cn Aa ca gs s gb gm H) (o : Obj) : BW w (wi.alloc o) d An cn Aa ca gs s gb gm H := h.below (bel_new wi o)
/-- a class has been hit once more: its row is longer, not yet in the map -/
theorem BW.hit {c : Int} {v : Value} {xs : List Int} {q : Int} {A' : Option Addr} {c' : Nat} (h : BW w wi d An cn Aa ca gs s gb gm H) (hc : H c = some (v, xs) ∨ (H c = none ∧ v.ownBlock = none))
    (ho : w2.ownsRow w.heap.size 3 1 (.slice A' (xs.length + 1) c') (xs.length + 1) (xs.map (Value.int .i64) ++ [.int .i64 q])) (hg : wi.grownBy w2 v.ownBlock)
    (hat : (Value.slice A' (xs.length + 1) c').ownBlock = v.ownBlock ∨ (Value.slice A' (xs.length + 1) c').ownBlock = some wi.heap.size) :
    SW w w2 d An cn Aa ca gs { s with H := fun x => if x = c then some (.slice A' (xs.length + 1) c', xs ++ [q]) else H x } ∧ Blk w2 gb 129 #[.pointer (some ⟨gs, 0, none⟩)] ∧ ∃ n, MapF w2 gm n (Value.int .i64) (fun c => (H c).map Prod.fst) := by
  have hne : ∀ k, v.ownBlock = some k → ∃ r, ({ s with H := H } : SS).fam (.hit c) = some r ∧ r.v.ownBlock = some k := fun k hk => by
    rcases hc with e | ⟨_, e⟩
    · exact ⟨rI (v, xs), by simp [SS.fam, e], hk⟩
    · rw [e] at hk; cases hk
  obtain ⟨n, hm⟩ := h.map
  refine ⟨h.sw.hitPut hc ho hg hat, h.box.touch (Touch.ofGrown hg) fun e => ?_, n, hm.touch (Touch.ofGrown hg) fun e => ?_⟩
  · obtain ⟨r, h1, h2⟩ := hne gb e.symm
    exact h.sw.ne h1 h.box (by decide) (by decide) h2
  · obtain ⟨r, h1, h2⟩ := hne gm e.symm
    exact hm.ne_own (h.sw.fam.own _ _ h1) h2
/-- what the map gives at a class -/
theorem BW.look {Pr : List Int} (h : BW w wi d An cn Aa ca gs s gb gm H) (hh : HitsAre s.cls Pr H) (c : Int) :
    ∃ A c', ((H c).map Prod.fst).getD (.slice none 0 0) = .slice A (hitsOf s.cls Pr c).length c' ∧ (H c = some (.slice A (hitsOf s.cls Pr c).length c', hitsOf s.cls Pr c) ∨ (H c = none ∧ (Value.slice A (hitsOf s.cls Pr c).length c').ownBlock = none)) ∧
      wi.ownsRow w.heap.size 3 1 (.slice A (hitsOf s.cls Pr c).length c') (hitsOf s.cls Pr c).length ((hitsOf s.cls Pr c).map (Value.int .i64)) := by
  rcases hh c with ⟨h1, h2⟩ | ⟨v, h1, h2⟩
  · rw [h1, h2]
    exact ⟨none, 0, rfl, .inr ⟨rfl, rfl⟩, World.ownsRow_nil _ _ _ _⟩
  · have hr : ({ s with H := H } : SS).fam (.hit c) = some ⟨3, v, (hitsOf s.cls Pr c).map (Value.int .i64)⟩ := by simp [SS.fam, h1, rI]
    have ho := h.sw.fam.own _ _ hr
    obtain ⟨A, c', rfl⟩ := h.sw.fam.form hr
    simp only [List.length_map] at ho h1 ⊢
    exact ⟨A, c', by rw [h1]; rfl, .inl h1, ho⟩
theorem hitsOf_len (cls Pr : List Int) (c : Int) : (hitsOf cls Pr c).length ≤ Pr.length := List.length_filter_le _ _
theorem gath_part {U : List Int} {x u : Int} {i j : Nat} (hn : U.Nodup) (hu : U[i]? = some u) : (gath d x (U.take i) ++ (backN d d.A.length u x).take j).length ≤ d.A.length := by
  have h1 := gath_le (d := d) (x := x) (U := U.take (i + 1)) (hn.sublist (List.take_sublist _ _))
  rw [take_snoc hu, gath_snoc, List.length_append] at h1
  rw [List.length_append, List.length_take]
  omega
/-- .. now in the map -/
theorem BW.mapped {n : Nat} (hs : SW w wi d An cn Aa ca gs { s with H := H' }) (hb : Blk wi gb 129 #[.pointer (some ⟨gs, 0, none⟩)]) (hm0 : ∃ n, MapF wi gm n (Value.int .i64) (fun c => (H c).map Prod.fst))
    (hm : MapF w2 gm n (Value.int .i64) (fun c => (H' c).map Prod.fst)) (ht : Touch (fun j => j = gm) wi w2) (bb : w.heap.size ≤ gb) (bm : w.heap.size ≤ gm) : BW w w2 d An cn Aa ca gs s gb gm H' where
  sw := by
    obtain ⟨n0, m0⟩ := hm0
    refine ⟨hs.fam.touch ht fun t r k hr hk e => m0.ne_own (hs.fam.own t r hr) (by rw [hk, e]), hs.blk.touch ht (Ne.symm (m0.ne_blk hs.blk)), hs.bel.trans (ht.toBelow hs.bel.size fun k hk e => by omega), hs.lo⟩
  box := by
    obtain ⟨n0, m0⟩ := hm0
    exact hb.touch ht (Ne.symm (m0.ne_blk hb))
  map := ⟨n, hm⟩
  bb := bb
  bm := bm
end
end Go.Proofs.Ytmpcoclgcldclaa
