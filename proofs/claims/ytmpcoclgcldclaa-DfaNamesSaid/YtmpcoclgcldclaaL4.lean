/- The walk of the law DfaNames. -/
import Derived.Test.YtmpcoclgcldclaaN
namespace Go.Proofs.Ytmpcoclgcldclaa
open Go.RowKit

theorem none_no_word (k : Int) : (noneD k).tells [] = false := by
  unfold noneD D.tells
  split
  · simp [D.run, D.acc]
  · rfl

set_option maxHeartbeats 2000000 in
set_option maxRecDepth 100000 in
theorem dfaNames_law (w : World) : Calls Try.prog 6 #[] w fun e w' => e = .returned (.bool true) ∧ Below w.heap.size w w' := by
  have c1 := fun W => none_any 0 W
  rw [show noneE 0 = 151 from rfl] at c1
  have c2 := fun W A (hr : Rd W W.heap.size A ([1, 3].map (Value.int .i64))) => word_any 3 [1, 3] A 2 W (by simp) hr
  rw [show chE 3 [1, 3] = 151 by decide] at c2
  have c3 := fun W => begins_any 513 [] none 0 W (by simp) Rd.nil_
  rw [show chE 513 [] = 151 by decide] at c3
  have c4 := fun W => not_no zeroD none none 0 0 W (by decide) (by simp [zeroD]) (by simp [zeroD]) Rd.nil_
  have c5 := fun W => none_any 512 W
  rw [show noneE 512 = 0 from rfl] at c5
  have hl1 : (noneD 512).N.length ≤ 1000 := by
    unfold noneD
    rw [if_pos (by omega)]
    show (List.replicate (512 : Int).toNat (0 : Int)).length ≤ 1000
    rw [List.length_replicate]
    decide
  have hA1 : (noneD 512).A.length = 1 := by unfold noneD; rw [if_pos (by omega)]; rfl
  have hT := none_no_word 512
  obtain ⟨d, hd⟩ : ∃ d, d = noneD 512 := ⟨_, rfl⟩
  rw [← hd] at c5 hl1 hA1 hT
  have C1 := Lib.hid c1; have C2 := Lib.hid c2; have C3 := Lib.hid c3; have C4 := Lib.hid c4; have C5 := Lib.hid c5
  have HA1 := Lib.hid hA1; have HT := Lib.hid hT
  clear c1 c2 c3 c4 c5 hd hA1 hT
  go_enter Try.func6, Try.ntmps6
  go_wp2_with fail
  refine (C1.out _).mono ?_
  rintro e w1 ⟨v1, rfl, hd1, hb1⟩
  obtain ⟨A1, n1, B1, m1, rfl⟩ := hd1.form
  have HW1 := Lib.hid hb1
  clear hd1 hb1
  go_wp2_with fail
  refine (C2.out _ _ ?_).mono ?_
  · exact rd_lit_at _ [1, 3] _ (by simp)
  rintro e w2 ⟨v2, rfl, hd2, hb2⟩
  obtain ⟨A2, n2, B2, m2, rfl⟩ := hd2.form
  have hs1 := HW1.out.size
  have HW2 : Hid (Below w.heap.size w w2) := ((HW1.out.alloc hs1 _).alloc (by simp; omega) _).trans (hb2.mono (by simp; omega))
  clear hd2 hb2 hs1
  go_wp2_with fail
  refine (C3.out _).mono ?_
  rintro e w3 ⟨v3, rfl, hd3, hb3⟩
  obtain ⟨A3, n3, B3, m3, rfl⟩ := hd3.form
  have hs1 := HW2.out.size
  have HW3 : Hid (Below w.heap.size w w3) := (HW2.out.alloc hs1 _).trans (hb3.mono (by simp; omega))
  clear hd3 hb3 hs1
  go_wp2_with fail
  refine (C4.out _).mono ?_
  rintro e w4 ⟨v4, rfl, hd4, hb4⟩
  obtain ⟨A4, n4, B4, m4, rfl⟩ := hd4.form
  have hs1 := HW3.out.size
  have HW4 : Hid (Below w.heap.size w w4) := (HW3.out.alloc hs1 _).trans (hb4.mono (by simp; omega))
  clear hd4 hb4 hs1
  go_wp2_with fail
  refine (C5.out _).mono ?_
  rintro e w5 ⟨v5, rfl, hd5, hb5⟩
  obtain ⟨A5, n5, B5, m5, rfl, ho1, ho2⟩ := hd5
  have hs1 := HW4.out.size
  have HW5 : Hid (Below w.heap.size w w5) := (HW4.out.alloc hs1 _).trans (hb5.mono (by simp; omega))
  have HN := Lib.hid (Rd.of_own ho1 (Nat.le_refl _))
  have HA := Lib.hid (Rd.of_own ho2 (Nat.le_refl _))
  clear hb5 hs1 ho1 ho2
  go_wp2_with fail
  refine (alive_any _).mono ?_
  rintro e w6 ⟨rfl, hb6⟩
  have hk := blk_below (Blk.new w5 25 #[.int .i64 d.K, .int .i64 d.S, .slice A5 d.N.length n5, .slice B5 d.A.length m5]) hb6
  have hw6 : Below w5.heap.size w5 w6 := ((Below.refl _ _).alloc (Nat.le_refl _) _).trans (hb6.mono (by simp))
  rw [HA1.out] at hk
  have h11 : (((1 : Nat) : Int) == 1) = true := by decide
  obtain ⟨⟨p0, p1, p2, p3⟩, _⟩ := blk4 hk
  have HW6 := Lib.hid hw6
  clear hb6 hk hw6
  have hc := tells_any d A5 B5 none n5 m5 0 [] w6 (by omega) (by rw [HA1.out]; omega) (by simp) (HN.out.up (Nat.le_refl _) HW6.out) (HA.out.up (Nat.le_refl _) HW6.out) Rd.nil_
  rw [HA1.out, HT.out] at hc
  have HC := Lib.hid hc; clear hc
  go_wp2_with fail
  refine HC.out.mono ?_
  rintro e w7 ⟨rfl, hb7⟩
  have HW7 : Hid (Below w.heap.size w w7) := HW5.out.trans ((HW6.out.mono HW5.out.size).trans (hb7.mono (Nat.le_trans HW5.out.size HW6.out.size)))
  clear hb7
  go_wp2_with fail
  go_ret
  exact ⟨rfl, HW7.out⟩
end Go.Proofs.Ytmpcoclgcldclaa
