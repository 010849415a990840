/- The walk of the law DfaTells. -/
import Derived.Test.YtmpcoclgcldclaaK
namespace Go.Proofs.Ytmpcoclgcldclaa
open Go.RowKit
attribute [local go_sem ↓] Go.wp_at_zero Go.wp_at_succ

set_option maxHeartbeats 2000000 in
set_option maxRecDepth 100000 in
theorem dfaTells_law (d : D) (An Aa Aw : Option Addr) (cn ca cw : Nat) (ws : List Int) (w : World)
    (hn2 : d.N.length ≤ 9223372036854775807) (ha2 : d.A.length ≤ 9223372036854775807) (hw2 : ws.length ≤ 9223372036854775807)
    (hrn : Rd w w.heap.size An (d.N.map (Value.int .i64))) (hra : Rd w w.heap.size Aa (d.A.map Value.bool)) (hrw : Rd w w.heap.size Aw (ws.map (Value.int .i64))) :
    Calls Try.prog 3 #[dfaV d.K d.S An d.N.length cn Aa d.A.length ca, .slice Aw ws.length cw] w fun e w' => e = .returned (.bool true) ∧ Below w.heap.size w w' := by
  have c27 := fun (W : World) (hb : Below w.heap.size w W) => right_any d An Aa cn ca W hn2 ha2 (hrn.up (Nat.le_refl _) hb)
  have c28 := fun (W : World) (hb : Below w.heap.size w W) => refRight_any d An Aa cn ca W hn2 ha2 (hrn.up (Nat.le_refl _) hb)
  have c29 := fun (W : World) (hb : Below w.heap.size w W) => tells_any d An Aa Aw cn ca cw ws W hn2 ha2 hw2 (hrn.up (Nat.le_refl _) hb) (hra.up (Nat.le_refl _) hb) (hrw.up (Nat.le_refl _) hb)
  have c30 := fun (W : World) (hb : Below w.heap.size w W) => refTells_any d An Aa Aw cn ca cw ws W hn2 ha2 hw2 (hrn.up (Nat.le_refl _) hb) (hra.up (Nat.le_refl _) hb) (hrw.up (Nat.le_refl _) hb)
  have C27 := Lib.hid c27; have C28 := Lib.hid c28; have C29 := Lib.hid c29; have C30 := Lib.hid c30
  clear c27 c28 c29 c30 hrn hra hrw
  go_enter Try.func3, Try.ntmps3
  go_wp2_with fail
  refine (alive_any _).mono ?_
  rintro e w1 ⟨rfl, hb1⟩
  have hk1 := blk_below (Blk.new w 25 #[.int .i64 d.K, .int .i64 d.S, .slice An d.N.length cn, .slice Aa d.A.length ca]) hb1
  have hw1 : Below w.heap.size w w1 := ((Below.refl _ _).alloc (Nat.le_refl _) _).trans (hb1.mono (by simp))
  obtain ⟨⟨p0, p1, p2, p3⟩, _⟩ := blk4 hk1
  have HK1 := Lib.hid hk1; have HW1 := Lib.hid hw1
  clear hb1 hk1 hw1
  go_wp2_with fail
  refine (great_any d An Aa cn ca _).mono ?_
  rintro e w2 ⟨rfl, hb2⟩
  have hk2 := blk_below HK1.out hb2
  have hw2' : Below w.heap.size w w2 := HW1.out.trans (hb2.mono HW1.out.size)
  clear p0 p1 p2 p3
  obtain ⟨⟨p0, p1, p2, p3⟩, _⟩ := blk4 hk2
  have HK2 := Lib.hid hk2; have HW2 := Lib.hid hw2'
  clear hb2 hk2 hw2' HK1 HW1
  rcases hgr : d.great with _ | _
  · have HGR := Lib.hid hgr; clear hgr
    by_cases hl : 200 < ws.length
    · go_wp2_with fail
      go_ret
      exact ⟨rfl, HW2.out⟩
    · go_wp2_with fail
      generalize hB : w.heap.size = B at p0 p1 p2 p3 ⊢
      have HB := Lib.hid hB; clear hB
      have HSZ : B < w2.heap.size := World.block_lt_of_cell? w2 _ p0
      have HD2 : Hid (Below w.heap.size w w2.drew) := HW2.out.drew
      have HKD : Hid (Blk w2.drew B 25 #[.int .i64 d.K, .int .i64 d.S, .slice An d.N.length cn, .slice Aa d.A.length ca]) := by rw [← HB.out]; exact HK2.out
      go_region_held3 (fun w' => w'.cell? ⟨B, 0, none⟩ = some (.int .i64 d.K) ∧ w'.cell? ⟨B, 1, none⟩ = some (.int .i64 d.S) ∧ w'.cell? ⟨B, 2, none⟩ = some (.slice An d.N.length cn) ∧ w'.cell? ⟨B, 3, none⟩ = some (.slice Aa d.A.length ca))
        (go_keep)
        (first
          | (go_at_call 27
             refine (C27.out _ ?_).mono ?_
             (exact HD2.out)
             rintro e w3 ⟨rfl, hb27⟩
             have HD3 : Hid (Below w.heap.size w w3) := HD2.out.trans (hb27.mono HD2.out.size)
             have HKK27 := Lib.hid (blk_below HKD.out hb27)
             obtain ⟨⟨r027, r127, r227, r327⟩, _⟩ := blk4 HKK27.out
             clear hb27)
          | (go_at_call 28
             refine (C28.out _ ?_).mono ?_
             (exact HD3.out)
             rintro e w4 ⟨rfl, hb28⟩
             have HD4 : Hid (Below w.heap.size w w4) := HD3.out.trans (hb28.mono HD3.out.size)
             have HKK28 := Lib.hid (blk_below HKK27.out hb28)
             obtain ⟨⟨r028, r128, r228, r328⟩, _⟩ := blk4 HKK28.out
             clear hb28)
          | (go_at_call 29
             refine (C29.out _ ?_).mono ?_
             (exact HD4.out)
             rintro e w5 ⟨rfl, hb29⟩
             have HD5 : Hid (Below w.heap.size w w5) := HD4.out.trans (hb29.mono HD4.out.size)
             have HKK29 := Lib.hid (blk_below HKK28.out hb29)
             obtain ⟨⟨r029, r129, r229, r329⟩, _⟩ := blk4 HKK29.out
             clear hb29)
          | (go_at_call 30
             refine (C30.out _ ?_).mono ?_
             (exact HD5.out)
             rintro e w6 ⟨rfl, hb30⟩
             have HD6 : Hid (Below w.heap.size w w6) := HD5.out.trans (hb30.mono HD5.out.size)
             have HKK30 := Lib.hid (blk_below HKK29.out hb30)
             obtain ⟨⟨r030, r130, r230, r330⟩, _⟩ := blk4 HKK30.out
             clear hb30))
      go_wp2_with fail
      go_ret
      exact ⟨rfl, HD6.out⟩
  · go_wp2_with fail
    go_ret
    exact ⟨rfl, HW2.out⟩
end Go.Proofs.Ytmpcoclgcldclaa
