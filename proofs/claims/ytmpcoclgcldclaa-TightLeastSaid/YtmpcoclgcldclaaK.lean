/- The walks of layer 15's helpers: great, dfaAlive. -/
import Derived.Test.YtmpcoclgcldclaaJ
namespace Go.Proofs.Ytmpcoclgcldclaa
open Go.RowKit

def D.great (d : D) : Bool := decide (12 < d.A.length ∨ 100 < d.N.length ∨ 9 < d.K)

set_option maxHeartbeats 1000000 in
set_option maxRecDepth 100000 in
theorem great_any (d : D) (An Aa : Option Addr) (cn ca : Nat) (w : World) :
    Calls Try.prog 26 #[dfaV d.K d.S An d.N.length cn Aa d.A.length ca] w fun e w' => e = .returned (.bool d.great) ∧ Below w.heap.size w w' := by
  by_cases h1 : 12 < d.A.length
  · have h : d.great = true := decide_eq_true (.inl h1)
    rw [h]; clear h
    go_enter Try.func26, Try.ntmps26
    go_wp2
    go_ret
    exact ⟨rfl, (Below.refl _ _).alloc (Nat.le_refl _) _⟩
  by_cases h2 : 100 < d.N.length
  · have h : d.great = true := decide_eq_true (.inr (.inl h2))
    rw [h]; clear h
    go_enter Try.func26, Try.ntmps26
    go_wp2
    go_ret
    exact ⟨rfl, (Below.refl _ _).alloc (Nat.le_refl _) _⟩
  · have h : d.great = decide (9 < d.K) := by
      unfold D.great
      congr 1
      exact propext (by omega)
    rw [h]; clear h
    go_enter Try.func26, Try.ntmps26
    go_wp2
    go_ret
    exact ⟨ret_bool (by rw [decide_eq_false (show ¬ (12 : Int) < d.A.length by omega), decide_eq_false (show ¬ (100 : Int) < d.N.length by omega)]; rfl), (Below.refl _ _).alloc (Nat.le_refl _) _⟩

theorem Rd.up {w W : World} {B : Nat} {A : Option Addr} {xs : List Value} (h : Rd w B A xs) (hB : B ≤ w.heap.size) (hb : Below w.heap.size w W) : Rd W W.heap.size A xs :=
  (h.below (hb.mono hB)).more (Nat.le_trans hB hb.size)
theorem rd_lit (w : World) (cs : List Int) : Rd (w.alloc (.cells (cs.map (Value.int .i64)).toArray 3)) (w.alloc (.cells (cs.map (Value.int .i64)).toArray 3)).heap.size (some ⟨w.heap.size, 0, none⟩) (cs.map (Value.int .i64)) :=
  fun _ => ⟨_, _, rfl, by simp, fun j u hu => by
    rw [cell_of_row _ w.heap.size _ (cs.map (Value.int .i64)).toArray 3 (0, 0) (heap_alloc_new w _)]
    simpa using hu⟩

theorem rd_lit_at (w : World) (cs : List Int) (n : Nat) (h : n = w.heap.size) : Rd (w.alloc (.cells (cs.map (Value.int .i64)).toArray 3)) (w.alloc (.cells (cs.map (Value.int .i64)).toArray 3)).heap.size (some ⟨n, 0, none⟩) (cs.map (Value.int .i64)) := by
  subst h; exact rd_lit w cs

set_option maxHeartbeats 1000000 in
set_option maxRecDepth 100000 in
theorem alive_any (w : World) : Calls Try.prog 25 #[] w fun e w' => e = .returned (.bool true) ∧ Below w.heap.size w w' := by
  have hword := word_any 2 [0, 1] (some ⟨w.heap.size, 0, none⟩) 2 (w.alloc (.cells #[.int .i64 0, .int .i64 1] 3)) (by simp) (rd_lit w [0, 1])
  have hE : chE 2 [0, 1] = 0 := by decide
  rw [hE] at hword
  clear hE
  obtain ⟨d, hd⟩ : ∃ d, d = chD 2 [0, 1] false := ⟨_, rfl⟩
  rw [← hd] at hword
  have t1 : d.tells [0, 1] = true := by rw [hd]; decide
  have t2 : d.tells [0] = false := by rw [hd]; decide
  have t3 : d.tells [0, 1, 1] = false := by rw [hd]; decide
  have hl1 : d.N.length ≤ 1000 := by rw [hd]; decide
  have hl2 : d.A.length ≤ 1000 := by rw [hd]; decide
  have HW := Lib.hid hword
  have T1 := Lib.hid t1; have T2 := Lib.hid t2; have T3 := Lib.hid t3
  clear hword hd t1 t2 t3
  go_enter Try.func25, Try.ntmps25
  go_wp2_with fail
  refine HW.out.mono ?_
  rintro e w1 ⟨v, rfl, hd, hb⟩
  obtain ⟨AN, cN, AA, cA, rfl, ho1, ho2⟩ := hd
  have HN := Lib.hid (Rd.of_own ho1 (Nat.le_refl _))
  have HA := Lib.hid (Rd.of_own ho2 (Nat.le_refl _))
  have HB := Lib.hid (((Below.refl _ _).alloc (Nat.le_refl _) _).trans (hb.mono (by simp)) : Below w.heap.size w w1)
  clear ho1 ho2 hb
  go_wp2_with fail
  refine (tells_any d AN AA _ cN cA 2 [0, 1] _ (by omega) (by omega) (by simp) ?_ ?_ ?_).mono ?_
  · exact HN.out.up (Nat.le_refl _) (((Below.refl _ _).alloc (Nat.le_refl _) _).alloc (by simp) _)
  · exact HA.out.up (Nat.le_refl _) (((Below.refl _ _).alloc (Nat.le_refl _) _).alloc (by simp) _)
  · exact rd_lit_at _ [0, 1] _ (by simp)
  rintro e w2 ⟨rfl, hb2⟩
  rw [T1.out]
  have hk2 := blk_below ((Blk.new w1 25 #[.int .i64 d.K, .int .i64 d.S, .slice AN d.N.length cN, .slice AA d.A.length cA]).alloc (.cells #[.int .i64 0, .int .i64 1] 3)) hb2
  have hw2 : Below w1.heap.size w1 w2 := (((Below.refl _ _).alloc (Nat.le_refl _) _).alloc (by simp) _).trans (hb2.mono (by simp; omega))
  obtain ⟨⟨p0, p1, p2, p3⟩, _⟩ := blk4 hk2
  have HW2 := Lib.hid hw2
  have HK2 := Lib.hid hk2
  clear hb2 hw2 hk2
  go_wp2_with fail
  refine (tells_any d AN AA _ cN cA 1 [0] _ (by omega) (by omega) (by simp) ?_ ?_ ?_).mono ?_
  · exact HN.out.up (Nat.le_refl _) (HW2.out.alloc HW2.out.size _)
  · exact HA.out.up (Nat.le_refl _) (HW2.out.alloc HW2.out.size _)
  · exact rd_lit _ [0]
  rintro e w3 ⟨rfl, hb3⟩
  rw [T2.out]
  have hk3 := blk_below (HK2.out.alloc (.cells #[.int .i64 0] 3)) hb3
  have hw3 : Below w1.heap.size w1 w3 := (HW2.out.alloc HW2.out.size _).trans (hb3.mono (by have := HW2.out.size; simp; omega))
  clear p0 p1 p2 p3
  obtain ⟨⟨p0, p1, p2, p3⟩, _⟩ := blk4 hk3
  have HW3 := Lib.hid hw3
  clear hb3 hw3 hk3 HK2 HW2
  go_wp2_with fail
  refine (tells_any d AN AA _ cN cA 3 [0, 1, 1] _ (by omega) (by omega) (by simp) ?_ ?_ ?_).mono ?_
  · exact HN.out.up (Nat.le_refl _) (HW3.out.alloc HW3.out.size _)
  · exact HA.out.up (Nat.le_refl _) (HW3.out.alloc HW3.out.size _)
  · exact rd_lit _ [0, 1, 1]
  rintro e w4 ⟨rfl, hb4⟩
  rw [T3.out]
  have hw4 : Below w1.heap.size w1 w4 := (HW3.out.alloc HW3.out.size _).trans (hb4.mono (by have := HW3.out.size; simp; omega))
  have HW4 := Lib.hid hw4
  clear hb4 hw4
  go_wp2_with fail
  go_ret
  exact ⟨rfl, HB.out.trans (HW4.out.mono HB.out.size)⟩
end Go.Proofs.Ytmpcoclgcldclaa
