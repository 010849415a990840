/- The walk of the law TightCompares. -/
import Derived.Test.YtmpcoclgcldclaaVB
import Derived.Test.YtmpcoclgcldclaaUJ
import Derived.Test.YtmpcoclgcldclaaPeel
import Derived.Handy
import Derived.Deep.RegionHeld3
import Derived.Deep.DeepCutAuto
namespace Go.Proofs.Ytmpcoclgcldclaa
open Go.RowKit
attribute [local go_sem ↓] Go.wp_at_zero Go.wp_at_succ

section
variable {w V : World} {a b c : D} {An Aa Bn Ba : Option Addr} {an aa bn ba go gn ga kk : Nat} {x0 x1 x2 x3 : Value}
/-- the box of the automaton that tells nothing is filled -/
theorem none_box (da : DIn w a An Aa) (db : DIn w b Bn Ba) (ha : HasD V w.heap.size a An an Aa aa) (hb : HasD V (w.heap.size + 1) b Bn bn Ba ba) (ho : Blk V go 25 #[x0, x1, x2, x3]) (hgo : w.heap.size + 1 < go)
    (hn : V.ownsRow (w.heap.size + 1) 3 1 (.slice (some ⟨gn, 0, none⟩) kk kk) kk (List.replicate kk (.int .i64 0))) (hc : V.ownsRow (w.heap.size + 1) 4 1 (.slice (some ⟨ga, 0, none⟩) 1 1) 1 (List.replicate 1 (.bool false))) (hbe : Below w.heap.size w V)
    (cK : c.K = (kk : Int)) (cS : c.S = 0) (cN : c.N = List.replicate kk 0) (cA : c.A = [false]) (hk : kk ≤ 1000) :
    HasD ((((V.setCell ⟨go, 0, none⟩ (.int .i64 (kk : Int))).setCell ⟨go, 1, none⟩ (.int .i64 0)).setCell ⟨go, 2, none⟩ (.slice (some ⟨gn, 0, none⟩) kk kk)).setCell ⟨go, 3, none⟩ (.slice (some ⟨ga, 0, none⟩) 1 1)) w.heap.size a An an Aa aa ∧
    HasD ((((V.setCell ⟨go, 0, none⟩ (.int .i64 (kk : Int))).setCell ⟨go, 1, none⟩ (.int .i64 0)).setCell ⟨go, 2, none⟩ (.slice (some ⟨gn, 0, none⟩) kk kk)).setCell ⟨go, 3, none⟩ (.slice (some ⟨ga, 0, none⟩) 1 1)) (w.heap.size + 1) b Bn bn Ba ba ∧
    HasD ((((V.setCell ⟨go, 0, none⟩ (.int .i64 (kk : Int))).setCell ⟨go, 1, none⟩ (.int .i64 0)).setCell ⟨go, 2, none⟩ (.slice (some ⟨gn, 0, none⟩) kk kk)).setCell ⟨go, 3, none⟩ (.slice (some ⟨ga, 0, none⟩) 1 1)) go c (some ⟨gn, 0, none⟩) kk (some ⟨ga, 0, none⟩) 1 ∧
    Below w.heap.size w ((((V.setCell ⟨go, 0, none⟩ (.int .i64 (kk : Int))).setCell ⟨go, 1, none⟩ (.int .i64 0)).setCell ⟨go, 2, none⟩ (.slice (some ⟨gn, 0, none⟩) kk kk)).setCell ⟨go, 3, none⟩ (.slice (some ⟨ga, 0, none⟩) 1 1)) := by
  have ht := touch4 V go (.int .i64 (kk : Int)) (.int .i64 0) (.slice (some ⟨gn, 0, none⟩) kk kk) (.slice (some ⟨ga, 0, none⟩) 1 1)
  have hB := hbe.trans (ht.toBelow hbe.size (fun j hj e => by omega))
  refine ⟨⟨ha.box.touch ht (by omega), da.up hB⟩, ⟨hb.box.touch ht (by omega), db.up hB⟩, ⟨?_, ?_, ?_, ?_, ?_⟩, hB⟩
  · show Blk _ go 25 #[.int .i64 c.K, .int .i64 c.S, .slice (some ⟨gn, 0, none⟩) c.N.length kk, .slice (some ⟨ga, 0, none⟩) c.A.length 1]
    rw [cK, cS, cN, cA, List.length_replicate]
    exact blkset4 ho _ _ _ _
  · rw [cN, List.length_replicate]; omega
  · rw [cA]; decide
  · rw [cN, List.map_replicate]
    exact Rd.of_own (own_touch hn ht (fun k hk e => own_ne_blk hn ho (by decide) (by rw [← e]; exact hk))) (Nat.le_refl _)
  · rw [cA]
    exact Rd.of_own (own_touch hc ht (fun k hk e => own_ne_blk hc ho (by decide) (by rw [← e]; exact hk))) (Nat.le_refl _)
end
set_option maxHeartbeats 8000000 in
set_option maxRecDepth 100000 in
theorem tightCompares_ga (a b : D) (An Aa Bn Ba : Option Addr) (an aa bn ba : Nat) (w : World) (ha : DIn w a An Aa) (hb : DIn w b Bn Ba) (ga : a.great = true) :
    Calls Try.prog 17 #[dfaV a.K a.S An a.N.length an Aa a.A.length aa, dfaV b.K b.S Bn b.N.length bn Ba b.A.length ba] w (Ret (.bool true) w) := by
  have GA := Lib.hid ga; clear ga
  have Ha := Lib.hid ((HasD.new ha an aa).alloc (.cells #[.int .i64 b.K, .int .i64 b.S, .slice Bn b.N.length bn, .slice Ba b.A.length ba] 25))
  have Hb : Hid (HasD ((w.alloc (.cells #[.int .i64 a.K, .int .i64 a.S, .slice An a.N.length an, .slice Aa a.A.length aa] 25)).alloc (.cells #[.int .i64 b.K, .int .i64 b.S, .slice Bn b.N.length bn, .slice Ba b.A.length ba] 25)) (w.heap.size + 1) b Bn bn Ba ba) := HasD.newAt (hb.alloc _) bn ba (by simp)
  have HW := Lib.hid (bel_alloc (bel_new w (.cells #[.int .i64 a.K, .int .i64 a.S, .slice An a.N.length an, .slice Aa a.A.length aa] 25)) (.cells #[.int .i64 b.K, .int .i64 b.S, .slice Bn b.N.length bn, .slice Ba b.A.length ba] 25))
  clear ha hb
  go_enter Try.func17, Try.ntmps17
  go_wp2_with fail
  refine (tightAlive_any _).mono ?_
  rintro e w1 ⟨rfl, hb⟩
  replace Ha := Lib.hid (Ha.out.up hb)
  replace Hb := Lib.hid (Hb.out.up hb)
  replace HW := Lib.hid (bel_step HW.out hb)
  clear hb
  obtain ⟨a0, a1, a2, a3⟩ := Ha.out.cells
  have lta := Ha.out.lt
  obtain ⟨b0, b1, b2, b3⟩ := Hb.out.cells
  have ltb := Hb.out.lt
  go_wp2_with fail
  refine (great16_c a An Aa an aa _).mono ?_
  rintro e w2 ⟨rfl, hb⟩
  replace Ha := Lib.hid (Ha.out.up hb)
  replace Hb := Lib.hid (Hb.out.up hb)
  replace HW := Lib.hid (bel_step HW.out hb)
  clear a0 a1 a2 a3 lta
  clear b0 b1 b2 b3 ltb
  clear hb
  obtain ⟨a0, a1, a2, a3⟩ := Ha.out.cells
  have lta := Ha.out.lt
  obtain ⟨b0, b1, b2, b3⟩ := Hb.out.cells
  have ltb := Hb.out.lt
  rw [GA.out]
  go_wp2_with fail
  go_ret
  exact ⟨rfl, HW.out⟩
set_option maxHeartbeats 8000000 in
set_option maxRecDepth 100000 in
theorem tightCompares_gb (a b : D) (An Aa Bn Ba : Option Addr) (an aa bn ba : Nat) (w : World) (ha : DIn w a An Aa) (hb : DIn w b Bn Ba) (ga : a.great = false) (gb : b.great = true) :
    Calls Try.prog 17 #[dfaV a.K a.S An a.N.length an Aa a.A.length aa, dfaV b.K b.S Bn b.N.length bn Ba b.A.length ba] w (Ret (.bool true) w) := by
  have GA := Lib.hid ga; clear ga
  have GB := Lib.hid gb; clear gb
  have Ha := Lib.hid ((HasD.new ha an aa).alloc (.cells #[.int .i64 b.K, .int .i64 b.S, .slice Bn b.N.length bn, .slice Ba b.A.length ba] 25))
  have Hb : Hid (HasD ((w.alloc (.cells #[.int .i64 a.K, .int .i64 a.S, .slice An a.N.length an, .slice Aa a.A.length aa] 25)).alloc (.cells #[.int .i64 b.K, .int .i64 b.S, .slice Bn b.N.length bn, .slice Ba b.A.length ba] 25)) (w.heap.size + 1) b Bn bn Ba ba) := HasD.newAt (hb.alloc _) bn ba (by simp)
  have HW := Lib.hid (bel_alloc (bel_new w (.cells #[.int .i64 a.K, .int .i64 a.S, .slice An a.N.length an, .slice Aa a.A.length aa] 25)) (.cells #[.int .i64 b.K, .int .i64 b.S, .slice Bn b.N.length bn, .slice Ba b.A.length ba] 25))
  clear ha hb
  go_enter Try.func17, Try.ntmps17
  go_wp2_with fail
  refine (tightAlive_any _).mono ?_
  rintro e w1 ⟨rfl, hb⟩
  replace Ha := Lib.hid (Ha.out.up hb)
  replace Hb := Lib.hid (Hb.out.up hb)
  replace HW := Lib.hid (bel_step HW.out hb)
  clear hb
  obtain ⟨a0, a1, a2, a3⟩ := Ha.out.cells
  have lta := Ha.out.lt
  obtain ⟨b0, b1, b2, b3⟩ := Hb.out.cells
  have ltb := Hb.out.lt
  go_wp2_with fail
  refine (great16_c a An Aa an aa _).mono ?_
  rintro e w2 ⟨rfl, hb⟩
  replace Ha := Lib.hid (Ha.out.up hb)
  replace Hb := Lib.hid (Hb.out.up hb)
  replace HW := Lib.hid (bel_step HW.out hb)
  clear a0 a1 a2 a3 lta
  clear b0 b1 b2 b3 ltb
  clear hb
  obtain ⟨a0, a1, a2, a3⟩ := Ha.out.cells
  have lta := Ha.out.lt
  obtain ⟨b0, b1, b2, b3⟩ := Hb.out.cells
  have ltb := Hb.out.lt
  rw [GA.out]
  go_wp2_with fail
  refine (great16_c b Bn Ba bn ba _).mono ?_
  rintro e w3 ⟨rfl, hb⟩
  replace Ha := Lib.hid (Ha.out.up hb)
  replace Hb := Lib.hid (Hb.out.up hb)
  replace HW := Lib.hid (bel_step HW.out hb)
  clear a0 a1 a2 a3 lta
  clear b0 b1 b2 b3 ltb
  clear hb
  obtain ⟨a0, a1, a2, a3⟩ := Ha.out.cells
  have lta := Ha.out.lt
  obtain ⟨b0, b1, b2, b3⟩ := Hb.out.cells
  have ltb := Hb.out.lt
  rw [GB.out]
  go_wp2_with fail
  go_ret
  exact ⟨rfl, HW.out⟩
set_option maxHeartbeats 8000000 in
set_option maxRecDepth 100000 in
theorem tightCompares_ra (a b : D) (An Aa Bn Ba : Option Addr) (an aa bn ba : Nat) (w : World) (ha : DIn w a An Aa) (hb : DIn w b Bn Ba) (ga : a.great = false) (gb : b.great = false) (ra : a.right = false) :
    Calls Try.prog 17 #[dfaV a.K a.S An a.N.length an Aa a.A.length aa, dfaV b.K b.S Bn b.N.length bn Ba b.A.length ba] w (Ret (.bool true) w) := by
  have hno : prodOk a b = false := by unfold prodOk; simp [ra]
  have HNO := Lib.hid hno; clear hno
  have GA := Lib.hid ga; clear ga
  have GB := Lib.hid gb; clear gb
  have RA := Lib.hid ra; clear ra
  have Ha := Lib.hid ((HasD.new ha an aa).alloc (.cells #[.int .i64 b.K, .int .i64 b.S, .slice Bn b.N.length bn, .slice Ba b.A.length ba] 25))
  have Hb : Hid (HasD ((w.alloc (.cells #[.int .i64 a.K, .int .i64 a.S, .slice An a.N.length an, .slice Aa a.A.length aa] 25)).alloc (.cells #[.int .i64 b.K, .int .i64 b.S, .slice Bn b.N.length bn, .slice Ba b.A.length ba] 25)) (w.heap.size + 1) b Bn bn Ba ba) := HasD.newAt (hb.alloc _) bn ba (by simp)
  have HW := Lib.hid (bel_alloc (bel_new w (.cells #[.int .i64 a.K, .int .i64 a.S, .slice An a.N.length an, .slice Aa a.A.length aa] 25)) (.cells #[.int .i64 b.K, .int .i64 b.S, .slice Bn b.N.length bn, .slice Ba b.A.length ba] 25))
  clear ha hb
  go_enter Try.func17, Try.ntmps17
  go_wp2_with fail
  refine (tightAlive_any _).mono ?_
  rintro e w1 ⟨rfl, hb⟩
  replace Ha := Lib.hid (Ha.out.up hb)
  replace Hb := Lib.hid (Hb.out.up hb)
  replace HW := Lib.hid (bel_step HW.out hb)
  clear hb
  obtain ⟨a0, a1, a2, a3⟩ := Ha.out.cells
  have lta := Ha.out.lt
  obtain ⟨b0, b1, b2, b3⟩ := Hb.out.cells
  have ltb := Hb.out.lt
  go_wp2_with fail
  refine (great16_c a An Aa an aa _).mono ?_
  rintro e w2 ⟨rfl, hb⟩
  replace Ha := Lib.hid (Ha.out.up hb)
  replace Hb := Lib.hid (Hb.out.up hb)
  replace HW := Lib.hid (bel_step HW.out hb)
  clear a0 a1 a2 a3 lta
  clear b0 b1 b2 b3 ltb
  clear hb
  obtain ⟨a0, a1, a2, a3⟩ := Ha.out.cells
  have lta := Ha.out.lt
  obtain ⟨b0, b1, b2, b3⟩ := Hb.out.cells
  have ltb := Hb.out.lt
  rw [GA.out]
  go_wp2_with fail
  refine (great16_c b Bn Ba bn ba _).mono ?_
  rintro e w3 ⟨rfl, hb⟩
  replace Ha := Lib.hid (Ha.out.up hb)
  replace Hb := Lib.hid (Hb.out.up hb)
  replace HW := Lib.hid (bel_step HW.out hb)
  clear a0 a1 a2 a3 lta
  clear b0 b1 b2 b3 ltb
  clear hb
  obtain ⟨a0, a1, a2, a3⟩ := Ha.out.cells
  have lta := Ha.out.lt
  obtain ⟨b0, b1, b2, b3⟩ := Hb.out.cells
  have ltb := Hb.out.lt
  rw [GB.out]
  go_wp2_with fail
  refine (same_no Ha.out.din Hb.out.din an aa bn ba HNO.out).mono ?_
  rintro e w4 ⟨rfl, hb⟩
  replace Ha := Lib.hid (Ha.out.up hb)
  replace Hb := Lib.hid (Hb.out.up hb)
  replace HW := Lib.hid (bel_step HW.out hb)
  clear a0 a1 a2 a3 lta
  clear b0 b1 b2 b3 ltb
  clear hb
  obtain ⟨a0, a1, a2, a3⟩ := Ha.out.cells
  have lta := Ha.out.lt
  obtain ⟨b0, b1, b2, b3⟩ := Hb.out.cells
  have ltb := Hb.out.lt
  go_wp2_with fail
  refine (within_no Ha.out.din Hb.out.din an aa bn ba HNO.out).mono ?_
  rintro e w5 ⟨rfl, hb⟩
  replace Ha := Lib.hid (Ha.out.up hb)
  replace Hb := Lib.hid (Hb.out.up hb)
  replace HW := Lib.hid (bel_step HW.out hb)
  clear a0 a1 a2 a3 lta
  clear b0 b1 b2 b3 ltb
  clear hb
  obtain ⟨a0, a1, a2, a3⟩ := Ha.out.cells
  have lta := Ha.out.lt
  obtain ⟨b0, b1, b2, b3⟩ := Hb.out.cells
  have ltb := Hb.out.lt
  go_wp2_with fail
  refine (empty_no Ha.out.din an aa RA.out).mono ?_
  rintro e w6 ⟨rfl, hb⟩
  replace Ha := Lib.hid (Ha.out.up hb)
  replace Hb := Lib.hid (Hb.out.up hb)
  replace HW := Lib.hid (bel_step HW.out hb)
  clear a0 a1 a2 a3 lta
  clear b0 b1 b2 b3 ltb
  clear hb
  obtain ⟨a0, a1, a2, a3⟩ := Ha.out.cells
  have lta := Ha.out.lt
  obtain ⟨b0, b1, b2, b3⟩ := Hb.out.cells
  have ltb := Hb.out.lt
  go_wp2_with fail
  refine (refRight_c Ha.out.din an aa).mono ?_
  rintro e w7 ⟨rfl, hb⟩
  replace Ha := Lib.hid (Ha.out.up hb)
  replace Hb := Lib.hid (Hb.out.up hb)
  replace HW := Lib.hid (bel_step HW.out hb)
  clear a0 a1 a2 a3 lta
  clear b0 b1 b2 b3 ltb
  clear hb
  obtain ⟨a0, a1, a2, a3⟩ := Ha.out.cells
  have lta := Ha.out.lt
  obtain ⟨b0, b1, b2, b3⟩ := Hb.out.cells
  have ltb := Hb.out.lt
  rw [RA.out]
  go_wp2_with fail
  go_ret
  exact ⟨rfl, HW.out⟩
set_option maxHeartbeats 8000000 in
set_option maxRecDepth 100000 in
theorem tightCompares_rb (a b : D) (An Aa Bn Ba : Option Addr) (an aa bn ba : Nat) (w : World) (ha : DIn w a An Aa) (hb : DIn w b Bn Ba) (ga : a.great = false) (gb : b.great = false) (ra : a.right = true) (rb : b.right = false) :
    Calls Try.prog 17 #[dfaV a.K a.S An a.N.length an Aa a.A.length aa, dfaV b.K b.S Bn b.N.length bn Ba b.A.length ba] w (Ret (.bool true) w) := by
  have hno : prodOk a b = false := by unfold prodOk; simp [rb]
  have HNO := Lib.hid hno; clear hno
  have GA := Lib.hid ga; clear ga
  have GB := Lib.hid gb; clear gb
  have RA := Lib.hid ra; clear ra
  have RB := Lib.hid rb; clear rb
  have Ha := Lib.hid ((HasD.new ha an aa).alloc (.cells #[.int .i64 b.K, .int .i64 b.S, .slice Bn b.N.length bn, .slice Ba b.A.length ba] 25))
  have Hb : Hid (HasD ((w.alloc (.cells #[.int .i64 a.K, .int .i64 a.S, .slice An a.N.length an, .slice Aa a.A.length aa] 25)).alloc (.cells #[.int .i64 b.K, .int .i64 b.S, .slice Bn b.N.length bn, .slice Ba b.A.length ba] 25)) (w.heap.size + 1) b Bn bn Ba ba) := HasD.newAt (hb.alloc _) bn ba (by simp)
  have HW := Lib.hid (bel_alloc (bel_new w (.cells #[.int .i64 a.K, .int .i64 a.S, .slice An a.N.length an, .slice Aa a.A.length aa] 25)) (.cells #[.int .i64 b.K, .int .i64 b.S, .slice Bn b.N.length bn, .slice Ba b.A.length ba] 25))
  clear ha hb
  go_enter Try.func17, Try.ntmps17
  go_wp2_with fail
  refine (tightAlive_any _).mono ?_
  rintro e w1 ⟨rfl, hb⟩
  replace Ha := Lib.hid (Ha.out.up hb)
  replace Hb := Lib.hid (Hb.out.up hb)
  replace HW := Lib.hid (bel_step HW.out hb)
  clear hb
  obtain ⟨a0, a1, a2, a3⟩ := Ha.out.cells
  have lta := Ha.out.lt
  obtain ⟨b0, b1, b2, b3⟩ := Hb.out.cells
  have ltb := Hb.out.lt
  go_wp2_with fail
  refine (great16_c a An Aa an aa _).mono ?_
  rintro e w2 ⟨rfl, hb⟩
  replace Ha := Lib.hid (Ha.out.up hb)
  replace Hb := Lib.hid (Hb.out.up hb)
  replace HW := Lib.hid (bel_step HW.out hb)
  clear a0 a1 a2 a3 lta
  clear b0 b1 b2 b3 ltb
  clear hb
  obtain ⟨a0, a1, a2, a3⟩ := Ha.out.cells
  have lta := Ha.out.lt
  obtain ⟨b0, b1, b2, b3⟩ := Hb.out.cells
  have ltb := Hb.out.lt
  rw [GA.out]
  go_wp2_with fail
  refine (great16_c b Bn Ba bn ba _).mono ?_
  rintro e w3 ⟨rfl, hb⟩
  replace Ha := Lib.hid (Ha.out.up hb)
  replace Hb := Lib.hid (Hb.out.up hb)
  replace HW := Lib.hid (bel_step HW.out hb)
  clear a0 a1 a2 a3 lta
  clear b0 b1 b2 b3 ltb
  clear hb
  obtain ⟨a0, a1, a2, a3⟩ := Ha.out.cells
  have lta := Ha.out.lt
  obtain ⟨b0, b1, b2, b3⟩ := Hb.out.cells
  have ltb := Hb.out.lt
  rw [GB.out]
  go_wp2_with fail
  refine (same_no Ha.out.din Hb.out.din an aa bn ba HNO.out).mono ?_
  rintro e w4 ⟨rfl, hb⟩
  replace Ha := Lib.hid (Ha.out.up hb)
  replace Hb := Lib.hid (Hb.out.up hb)
  replace HW := Lib.hid (bel_step HW.out hb)
  clear a0 a1 a2 a3 lta
  clear b0 b1 b2 b3 ltb
  clear hb
  obtain ⟨a0, a1, a2, a3⟩ := Ha.out.cells
  have lta := Ha.out.lt
  obtain ⟨b0, b1, b2, b3⟩ := Hb.out.cells
  have ltb := Hb.out.lt
  go_wp2_with fail
  refine (within_no Ha.out.din Hb.out.din an aa bn ba HNO.out).mono ?_
  rintro e w5 ⟨rfl, hb⟩
  replace Ha := Lib.hid (Ha.out.up hb)
  replace Hb := Lib.hid (Hb.out.up hb)
  replace HW := Lib.hid (bel_step HW.out hb)
  clear a0 a1 a2 a3 lta
  clear b0 b1 b2 b3 ltb
  clear hb
  obtain ⟨a0, a1, a2, a3⟩ := Ha.out.cells
  have lta := Ha.out.lt
  obtain ⟨b0, b1, b2, b3⟩ := Hb.out.cells
  have ltb := Hb.out.lt
  go_wp2_with fail
  refine (empty_yes Ha.out.din an aa (D.right_true.1 RA.out)).mono ?_
  rintro e w6 ⟨em, rfl, hem, hb⟩
  replace Ha := Lib.hid (Ha.out.up hb)
  replace Hb := Lib.hid (Hb.out.up hb)
  replace HW := Lib.hid (bel_step HW.out hb)
  clear a0 a1 a2 a3 lta
  clear b0 b1 b2 b3 ltb
  clear hb
  clear hem
  obtain ⟨a0, a1, a2, a3⟩ := Ha.out.cells
  have lta := Ha.out.lt
  obtain ⟨b0, b1, b2, b3⟩ := Hb.out.cells
  have ltb := Hb.out.lt
  go_wp2_with fail
  refine (refRight_c Ha.out.din an aa).mono ?_
  rintro e w7 ⟨rfl, hb⟩
  replace Ha := Lib.hid (Ha.out.up hb)
  replace Hb := Lib.hid (Hb.out.up hb)
  replace HW := Lib.hid (bel_step HW.out hb)
  clear a0 a1 a2 a3 lta
  clear b0 b1 b2 b3 ltb
  clear hb
  obtain ⟨a0, a1, a2, a3⟩ := Ha.out.cells
  have lta := Ha.out.lt
  obtain ⟨b0, b1, b2, b3⟩ := Hb.out.cells
  have ltb := Hb.out.lt
  rw [RA.out]
  go_wp2_with fail
  refine (refRight_c Hb.out.din bn ba).mono ?_
  rintro e w8 ⟨rfl, hb⟩
  replace Ha := Lib.hid (Ha.out.up hb)
  replace Hb := Lib.hid (Hb.out.up hb)
  replace HW := Lib.hid (bel_step HW.out hb)
  clear a0 a1 a2 a3 lta
  clear b0 b1 b2 b3 ltb
  clear hb
  obtain ⟨a0, a1, a2, a3⟩ := Ha.out.cells
  have lta := Ha.out.lt
  obtain ⟨b0, b1, b2, b3⟩ := Hb.out.cells
  have ltb := Hb.out.lt
  rw [RB.out]
  go_wp2_with fail
  go_ret
  exact ⟨rfl, HW.out⟩
set_option maxHeartbeats 8000000 in
set_option maxRecDepth 100000 in
theorem tightCompares_k (a b : D) (An Aa Bn Ba : Option Addr) (an aa bn ba : Nat) (w : World) (ha : DIn w a An Aa) (hb : DIn w b Bn Ba) (ga : a.great = false) (gb : b.great = false) (ra : a.right = true) (rb : b.right = true) (hK : (a.K != b.K) = true) :
    Calls Try.prog 17 #[dfaV a.K a.S An a.N.length an Aa a.A.length aa, dfaV b.K b.S Bn b.N.length bn Ba b.A.length ba] w (Ret (.bool true) w) := by
  have hno : prodOk a b = false := by
    have h1 : (a.K == b.K) = false := by rw [← Bool.not_eq_true']; exact hK
    unfold prodOk; rw [h1]; simp
  have HNO := Lib.hid hno; clear hno
  have GA := Lib.hid ga; clear ga
  have GB := Lib.hid gb; clear gb
  have RA := Lib.hid ra; clear ra
  have RB := Lib.hid rb; clear rb
  have Ha := Lib.hid ((HasD.new ha an aa).alloc (.cells #[.int .i64 b.K, .int .i64 b.S, .slice Bn b.N.length bn, .slice Ba b.A.length ba] 25))
  have Hb : Hid (HasD ((w.alloc (.cells #[.int .i64 a.K, .int .i64 a.S, .slice An a.N.length an, .slice Aa a.A.length aa] 25)).alloc (.cells #[.int .i64 b.K, .int .i64 b.S, .slice Bn b.N.length bn, .slice Ba b.A.length ba] 25)) (w.heap.size + 1) b Bn bn Ba ba) := HasD.newAt (hb.alloc _) bn ba (by simp)
  have HW := Lib.hid (bel_alloc (bel_new w (.cells #[.int .i64 a.K, .int .i64 a.S, .slice An a.N.length an, .slice Aa a.A.length aa] 25)) (.cells #[.int .i64 b.K, .int .i64 b.S, .slice Bn b.N.length bn, .slice Ba b.A.length ba] 25))
  clear ha hb
  go_enter Try.func17, Try.ntmps17
  go_wp2_with fail
  refine (tightAlive_any _).mono ?_
  rintro e w1 ⟨rfl, hb⟩
  replace Ha := Lib.hid (Ha.out.up hb)
  replace Hb := Lib.hid (Hb.out.up hb)
  replace HW := Lib.hid (bel_step HW.out hb)
  clear hb
  obtain ⟨a0, a1, a2, a3⟩ := Ha.out.cells
  have lta := Ha.out.lt
  obtain ⟨b0, b1, b2, b3⟩ := Hb.out.cells
  have ltb := Hb.out.lt
  go_wp2_with fail
  refine (great16_c a An Aa an aa _).mono ?_
  rintro e w2 ⟨rfl, hb⟩
  replace Ha := Lib.hid (Ha.out.up hb)
  replace Hb := Lib.hid (Hb.out.up hb)
  replace HW := Lib.hid (bel_step HW.out hb)
  clear a0 a1 a2 a3 lta
  clear b0 b1 b2 b3 ltb
  clear hb
  obtain ⟨a0, a1, a2, a3⟩ := Ha.out.cells
  have lta := Ha.out.lt
  obtain ⟨b0, b1, b2, b3⟩ := Hb.out.cells
  have ltb := Hb.out.lt
  rw [GA.out]
  go_wp2_with fail
  refine (great16_c b Bn Ba bn ba _).mono ?_
  rintro e w3 ⟨rfl, hb⟩
  replace Ha := Lib.hid (Ha.out.up hb)
  replace Hb := Lib.hid (Hb.out.up hb)
  replace HW := Lib.hid (bel_step HW.out hb)
  clear a0 a1 a2 a3 lta
  clear b0 b1 b2 b3 ltb
  clear hb
  obtain ⟨a0, a1, a2, a3⟩ := Ha.out.cells
  have lta := Ha.out.lt
  obtain ⟨b0, b1, b2, b3⟩ := Hb.out.cells
  have ltb := Hb.out.lt
  rw [GB.out]
  go_wp2_with fail
  refine (same_no Ha.out.din Hb.out.din an aa bn ba HNO.out).mono ?_
  rintro e w4 ⟨rfl, hb⟩
  replace Ha := Lib.hid (Ha.out.up hb)
  replace Hb := Lib.hid (Hb.out.up hb)
  replace HW := Lib.hid (bel_step HW.out hb)
  clear a0 a1 a2 a3 lta
  clear b0 b1 b2 b3 ltb
  clear hb
  obtain ⟨a0, a1, a2, a3⟩ := Ha.out.cells
  have lta := Ha.out.lt
  obtain ⟨b0, b1, b2, b3⟩ := Hb.out.cells
  have ltb := Hb.out.lt
  go_wp2_with fail
  refine (within_no Ha.out.din Hb.out.din an aa bn ba HNO.out).mono ?_
  rintro e w5 ⟨rfl, hb⟩
  replace Ha := Lib.hid (Ha.out.up hb)
  replace Hb := Lib.hid (Hb.out.up hb)
  replace HW := Lib.hid (bel_step HW.out hb)
  clear a0 a1 a2 a3 lta
  clear b0 b1 b2 b3 ltb
  clear hb
  obtain ⟨a0, a1, a2, a3⟩ := Ha.out.cells
  have lta := Ha.out.lt
  obtain ⟨b0, b1, b2, b3⟩ := Hb.out.cells
  have ltb := Hb.out.lt
  go_wp2_with fail
  refine (empty_yes Ha.out.din an aa (D.right_true.1 RA.out)).mono ?_
  rintro e w6 ⟨em, rfl, hem, hb⟩
  replace Ha := Lib.hid (Ha.out.up hb)
  replace Hb := Lib.hid (Hb.out.up hb)
  replace HW := Lib.hid (bel_step HW.out hb)
  clear a0 a1 a2 a3 lta
  clear b0 b1 b2 b3 ltb
  clear hb
  clear hem
  obtain ⟨a0, a1, a2, a3⟩ := Ha.out.cells
  have lta := Ha.out.lt
  obtain ⟨b0, b1, b2, b3⟩ := Hb.out.cells
  have ltb := Hb.out.lt
  go_wp2_with fail
  refine (refRight_c Ha.out.din an aa).mono ?_
  rintro e w7 ⟨rfl, hb⟩
  replace Ha := Lib.hid (Ha.out.up hb)
  replace Hb := Lib.hid (Hb.out.up hb)
  replace HW := Lib.hid (bel_step HW.out hb)
  clear a0 a1 a2 a3 lta
  clear b0 b1 b2 b3 ltb
  clear hb
  obtain ⟨a0, a1, a2, a3⟩ := Ha.out.cells
  have lta := Ha.out.lt
  obtain ⟨b0, b1, b2, b3⟩ := Hb.out.cells
  have ltb := Hb.out.lt
  rw [RA.out]
  go_wp2_with fail
  refine (refRight_c Hb.out.din bn ba).mono ?_
  rintro e w8 ⟨rfl, hb⟩
  replace Ha := Lib.hid (Ha.out.up hb)
  replace Hb := Lib.hid (Hb.out.up hb)
  replace HW := Lib.hid (bel_step HW.out hb)
  clear a0 a1 a2 a3 lta
  clear b0 b1 b2 b3 ltb
  clear hb
  obtain ⟨a0, a1, a2, a3⟩ := Ha.out.cells
  have lta := Ha.out.lt
  obtain ⟨b0, b1, b2, b3⟩ := Hb.out.cells
  have ltb := Hb.out.lt
  rw [RB.out]
  go_wp2_with fail
  go_ret
  exact ⟨rfl, HW.out⟩
set_option maxHeartbeats 8000000 in
set_option maxRecDepth 100000 in
theorem tightCompares_main (a b : D) (An Aa Bn Ba : Option Addr) (an aa bn ba : Nat) (w : World) (ha : DIn w a An Aa) (hb : DIn w b Bn Ba) (ga : a.great = false) (gb : b.great = false) (ra : a.right = true) (rb : b.right = true) (hK : a.K = b.K) :
    Calls Try.prog 17 #[dfaV a.K a.S An a.N.length an Aa a.A.length aa, dfaV b.K b.S Bn b.N.length bn Ba b.A.length ba] w (Ret (.bool true) w) := by
  obtain ⟨s1, s2, _⟩ := D.great_no ga
  obtain ⟨t1, t2, _⟩ := D.great_no gb
  have oka := D.right_true.1 ra
  have okb := D.right_true.1 rb
  have hsz : a.A.length * b.A.length ≤ 144 := Nat.mul_le_mul s1 t1
  have OKA := Lib.hid oka; have OKB := Lib.hid okb; have HKE := Lib.hid hK
  have C62 := Lib.hid (fun (W : World) (h1 : DIn W a An Aa) (h2 : DIn W b Bn Ba) => same_yes h1 h2 an aa bn ba oka okb hK (by omega))
  have C63 := Lib.hid (fun (W : World) (h1 : DIn W a An Aa) (h2 : DIn W b Bn Ba) => within_yes h1 h2 an aa bn ba oka okb hK (by omega))
  have C64 := Lib.hid (fun (W : World) (h1 : DIn W a An Aa) => empty_yes h1 an aa oka)
  have C38 := Lib.hid (fun (W : World) (h1 : DIn W a An Aa) (h2 : DIn W b Bn Ba) => like_c h1 h2 oka okb hK (by omega) an aa bn ba)
  have C65 := Lib.hid (fun (W : World) (h1 : DIn W a An Aa) (h2 : DIn W b Bn Ba) => refWithin_any h1 h2 an aa bn ba oka okb hK (by omega))
  have hK1 : 1 ≤ a.K := oka.1
  have hK2 : a.K ≤ 512 := oka.2.1
  obtain ⟨kk, hkk⟩ : ∃ kk : Nat, a.K = (kk : Int) := Int.eq_ofNat_of_zero_le (by omega)
  obtain ⟨c, hc⟩ : ∃ c : D, c = D.mk (kk : Int) 0 (List.replicate kk 0) [false] := ⟨_, rfl⟩
  have hcK : c.K = (kk : Int) := by rw [hc]
  have hcS : c.S = 0 := by rw [hc]
  have hcN : c.N = List.replicate kk 0 := by rw [hc]
  have hcA : c.A = [false] := by rw [hc]
  have okc : c.Ok := by
    rw [hc]
    refine ⟨by show 1 ≤ (kk : Int); omega, by show (kk : Int) ≤ 512; omega, by simp, by simp, by simp, by simp, by simp, fun s hs => ?_⟩
    have : s = 0 := (List.mem_replicate.1 hs).2
    subst this
    simp
  have hkl : kk ≤ 512 := by omega
  have HCE : Hid (LikeP a c ↔ EmptyP a) := by show _ ↔ _; rw [hc]; exact like_none kk hkk
  have HOC := Lib.hid okc; have HCK := Lib.hid hcK; have HCS := Lib.hid hcS; have HCN := Lib.hid hcN; have HCA := Lib.hid hcA
  have C38c := Lib.hid (fun (W : World) (Cn Ca : Option Addr) (cn ca : Nat) (h1 : DIn W a An Aa) (h2 : DIn W c Cn Ca) => like_c h1 h2 oka okc (hkk.trans hcK.symm) (by rw [hcA]; simp; omega) an aa cn ca)
  have HKK := Lib.hid hkk
  obtain ⟨i4, hi, hz, hs2, hb2⟩ := info_parts Try.info4
  have HI4 := Lib.hid hi; have HZ4 := Lib.hid hz; have HS4 := Lib.hid hs2; have HB4 := Lib.hid hb2
  clear hi hz hs2 hb2
  obtain ⟨i3, hi, hz, hs2, hb2⟩ := info_parts Try.info3
  have HI3 := Lib.hid hi; have HZ3 := Lib.hid hz; have HS3 := Lib.hid hs2; have HB3 := Lib.hid hb2
  clear hi hz hs2 hb2
  have hmkn : ∀ W : World, (Instr.makeSlice 22 (.int .i64 (kk : Int)) (.int .i64 (kk : Int))).run Try.prog W = .ok (.slice (some ⟨W.heap.size, 0, none⟩) kk kk) (W.alloc (.cells (madeCells #[.int .i64 0] kk) 3)) := fun W => by
    have h := run_make_rowN (P := Try.prog) 22 3 i3 (.int .i64 0) Try.underlying22 HI3.out HZ3.out .i64 .i64 kk kk (Nat.le_refl _) (by rw [HB3.out]; omega) (by omega) W
    rw [HS3.out, Nat.mul_one] at h
    exact h
  have hmka : ∀ W : World, (Instr.makeSlice 23 (.int .i64 1) (.int .i64 1)).run Try.prog W = .ok (.slice (some ⟨W.heap.size, 0, none⟩) 1 1) (W.alloc (.cells (madeCells #[.bool false] 1) 4)) := fun W => by
    have h := run_make_rowN (P := Try.prog) 23 4 i4 (.bool false) Try.underlying23 HI4.out HZ4.out .i64 .i64 1 1 (Nat.le_refl _) (by rw [HB4.out]; omega) (by omega) W
    rw [HS4.out, Nat.mul_one] at h
    exact h
  have hKf : (a.K != b.K) = false := by rw [hK]; simp
  have HDA0 := Lib.hid ha
  have HDB0 := Lib.hid hb
  clear hsz oka okb hK s1 s2 t1 t2 hc hcK hcS hcN hcA okc hkk
  have GA := Lib.hid ga; clear ga
  have GB := Lib.hid gb; clear gb
  have RA := Lib.hid ra; clear ra
  have RB := Lib.hid rb; clear rb
  have Ha := Lib.hid ((HasD.new ha an aa).alloc (.cells #[.int .i64 b.K, .int .i64 b.S, .slice Bn b.N.length bn, .slice Ba b.A.length ba] 25))
  have Hb : Hid (HasD ((w.alloc (.cells #[.int .i64 a.K, .int .i64 a.S, .slice An a.N.length an, .slice Aa a.A.length aa] 25)).alloc (.cells #[.int .i64 b.K, .int .i64 b.S, .slice Bn b.N.length bn, .slice Ba b.A.length ba] 25)) (w.heap.size + 1) b Bn bn Ba ba) := HasD.newAt (hb.alloc _) bn ba (by simp)
  have HW := Lib.hid (bel_alloc (bel_new w (.cells #[.int .i64 a.K, .int .i64 a.S, .slice An a.N.length an, .slice Aa a.A.length aa] 25)) (.cells #[.int .i64 b.K, .int .i64 b.S, .slice Bn b.N.length bn, .slice Ba b.A.length ba] 25))
  clear ha hb
  go_enter Try.func17, Try.ntmps17
  go_wp2_with fail
  refine (tightAlive_any _).mono ?_
  rintro e w1 ⟨rfl, hb⟩
  replace Ha := Lib.hid (Ha.out.up hb)
  replace Hb := Lib.hid (Hb.out.up hb)
  replace HW := Lib.hid (bel_step HW.out hb)
  clear hb
  obtain ⟨a0, a1, a2, a3⟩ := Ha.out.cells
  have lta := Ha.out.lt
  obtain ⟨b0, b1, b2, b3⟩ := Hb.out.cells
  have ltb := Hb.out.lt
  go_wp2_with fail
  refine (great16_c a An Aa an aa _).mono ?_
  rintro e w2 ⟨rfl, hb⟩
  replace Ha := Lib.hid (Ha.out.up hb)
  replace Hb := Lib.hid (Hb.out.up hb)
  replace HW := Lib.hid (bel_step HW.out hb)
  clear a0 a1 a2 a3 lta
  clear b0 b1 b2 b3 ltb
  clear hb
  obtain ⟨a0, a1, a2, a3⟩ := Ha.out.cells
  have lta := Ha.out.lt
  obtain ⟨b0, b1, b2, b3⟩ := Hb.out.cells
  have ltb := Hb.out.lt
  rw [GA.out]
  go_wp2_with fail
  refine (great16_c b Bn Ba bn ba _).mono ?_
  rintro e w3 ⟨rfl, hb⟩
  replace Ha := Lib.hid (Ha.out.up hb)
  replace Hb := Lib.hid (Hb.out.up hb)
  replace HW := Lib.hid (bel_step HW.out hb)
  clear a0 a1 a2 a3 lta
  clear b0 b1 b2 b3 ltb
  clear hb
  obtain ⟨a0, a1, a2, a3⟩ := Ha.out.cells
  have lta := Ha.out.lt
  obtain ⟨b0, b1, b2, b3⟩ := Hb.out.cells
  have ltb := Hb.out.lt
  rw [GB.out]
  go_wp2_with fail
  refine (C62.out _ Ha.out.din Hb.out.din).mono ?_
  rintro e w4 ⟨sm, rfl, hsm, hb⟩
  replace Ha := Lib.hid (Ha.out.up hb)
  replace Hb := Lib.hid (Hb.out.up hb)
  replace HW := Lib.hid (bel_step HW.out hb)
  clear a0 a1 a2 a3 lta
  clear b0 b1 b2 b3 ltb
  clear hb
  have HSM : Hid (sm = true ↔ LikeP a b) := hsm.trans allP_like
  clear hsm
  obtain ⟨a0, a1, a2, a3⟩ := Ha.out.cells
  have lta := Ha.out.lt
  obtain ⟨b0, b1, b2, b3⟩ := Hb.out.cells
  have ltb := Hb.out.lt
  go_wp2_with fail
  refine (C63.out _ Ha.out.din Hb.out.din).mono ?_
  rintro e w5 ⟨i1, rfl, hi, hb⟩
  replace Ha := Lib.hid (Ha.out.up hb)
  replace Hb := Lib.hid (Hb.out.up hb)
  replace HW := Lib.hid (bel_step HW.out hb)
  clear a0 a1 a2 a3 lta
  clear b0 b1 b2 b3 ltb
  clear hb
  have HI1 : Hid (i1 = true ↔ InP a b) := hi
  clear hi
  obtain ⟨a0, a1, a2, a3⟩ := Ha.out.cells
  have lta := Ha.out.lt
  obtain ⟨b0, b1, b2, b3⟩ := Hb.out.cells
  have ltb := Hb.out.lt
  go_wp2_with fail
  refine (C64.out _ Ha.out.din).mono ?_
  rintro e w6 ⟨em, rfl, hem, hb⟩
  replace Ha := Lib.hid (Ha.out.up hb)
  replace Hb := Lib.hid (Hb.out.up hb)
  replace HW := Lib.hid (bel_step HW.out hb)
  clear a0 a1 a2 a3 lta
  clear b0 b1 b2 b3 ltb
  clear hb
  have HEM : Hid (em = true ↔ EmptyP a) := hem
  clear hem
  obtain ⟨a0, a1, a2, a3⟩ := Ha.out.cells
  have lta := Ha.out.lt
  obtain ⟨b0, b1, b2, b3⟩ := Hb.out.cells
  have ltb := Hb.out.lt
  go_wp2_with fail
  refine (refRight_c Ha.out.din an aa).mono ?_
  rintro e w7 ⟨rfl, hb⟩
  replace Ha := Lib.hid (Ha.out.up hb)
  replace Hb := Lib.hid (Hb.out.up hb)
  replace HW := Lib.hid (bel_step HW.out hb)
  clear a0 a1 a2 a3 lta
  clear b0 b1 b2 b3 ltb
  clear hb
  obtain ⟨a0, a1, a2, a3⟩ := Ha.out.cells
  have lta := Ha.out.lt
  obtain ⟨b0, b1, b2, b3⟩ := Hb.out.cells
  have ltb := Hb.out.lt
  rw [RA.out]
  go_wp2_with fail
  refine (refRight_c Hb.out.din bn ba).mono ?_
  rintro e w8 ⟨rfl, hb⟩
  replace Ha := Lib.hid (Ha.out.up hb)
  replace Hb := Lib.hid (Hb.out.up hb)
  replace HW := Lib.hid (bel_step HW.out hb)
  clear a0 a1 a2 a3 lta
  clear b0 b1 b2 b3 ltb
  clear hb
  obtain ⟨a0, a1, a2, a3⟩ := Ha.out.cells
  have lta := Ha.out.lt
  obtain ⟨b0, b1, b2, b3⟩ := Hb.out.cells
  have ltb := Hb.out.lt
  rw [RB.out]
  have hs1 : w.heap.size + 1 + 1 ≤ w8.heap.size := by have := ltb; omega
  rw [HKK.out] at a0 hKf
  go_upto_region 11 with fail
  go_cut [12] (fun v12 wx => ∃ (go gn ga : Nat), v12 = .pointer (some ⟨go, 0, none⟩) ∧ Hid (HasD wx w.heap.size a An an Aa aa) ∧ Hid (HasD wx (w.heap.size + 1) b Bn bn Ba ba) ∧ Hid (HasD wx go c (some ⟨gn, 0, none⟩) kk (some ⟨ga, 0, none⟩) 1) ∧ Hid (Below w.heap.size w wx))
  case first =>
    have HA0 := Lib.hid Ha.out.drew
    have HB0 := Lib.hid Hb.out.drew
    have HW0 := Lib.hid HW.out.drew
    have hs0 : w.heap.size + 1 + 1 ≤ w8.drew.heap.size := hs1
    refine wp_region_peelF (S := fun w' => w'.cell? ⟨w.heap.size, 0, none⟩ = some (.int .i64 (kk : Int))) (List.cons_ne_nil _ _) (by kernel_rfl) (by kernel_rfl) (a0) (fun hHeld => ?_)
    simp only [List.dropLast_cons_cons, List.dropLast_singleton, List.length_cons, List.length_nil, Nat.zero_add, Nat.reduceAdd]
    generalize w8.drew = W0 at HA0 HB0 HW0 hs0 hHeld ⊢
    clear Ha Hb HW hs1 a0 a1 a2 a3 b0 b1 b2 b3 lta ltb
    refine wpAnyH_take (i := 0) (v := ?_) rfl (by kernel_rfl) (by kernel_rfl) (by kernel_rfl) (fun _ _ _ h => h) (Or.inl ⟨by rfl, ?_⟩) (by assumption) ?_
    rotate_left 1
    · intro w hSw; (try dsimp only at hSw); go_simp; first | done | with_reducible rfl
    try simp only [Act.put]
    refine wpAnyH_take (i := 1) (v := ?_) rfl (by kernel_rfl) (by kernel_rfl) (by kernel_rfl) (fun _ _ _ h => h) (Or.inl ⟨by rfl, ?_⟩) (by assumption) ?_
    rotate_left 1
    · intro w hSw; (try dsimp only at hSw); go_simp; first | done | with_reducible rfl
    try simp only [Act.put]
    refine wpAnyH_take (i := 2) (v := ?_) rfl (by kernel_rfl) (by kernel_rfl) (by kernel_rfl) (fun _ _ _ h => h) (Or.inl ⟨by rfl, ?_⟩) (by assumption) ?_
    rotate_left 1
    · intro w hSw; (try dsimp only at hSw); go_simp; first | done | with_reducible rfl
    try simp only [Act.put]
    refine wpAnyH_take (i := 3) (v := ?_) rfl (by kernel_rfl) (by kernel_rfl) (by kernel_rfl) (fun _ _ _ h => h) (Or.inl ⟨by rfl, ?_⟩) (by assumption) ?_
    rotate_left 1
    · intro w hSw; (try dsimp only at hSw); go_simp; first | done | with_reducible rfl
    try simp only [Act.put]
    refine wpAnyH_ready (rs := [4, 5, 7]) (by kernel_rfl) (by simp) (AllReadyH.cons rfl (fun K hK => ?_) (AllReadyH.cons rfl (fun K hK => ?_) (AllReadyH.cons rfl (fun K hK => ?_) (AllReadyH.nil))))
    · go_simp
      refine hK.out _ _ ((World.cell?_alloc_lt _ _ ⟨w.heap.size, 0, none⟩ (by simp; omega)).trans hHeld) (fun hHeld => ?_)
      clear hK K
      try simp only [Act.put]
      refine wpAnyH_ready (rs := [5, 7]) (by kernel_rfl) (by simp) (AllReadyH.cons rfl (fun K hK => ?_) (AllReadyH.cons rfl (fun K hK => ?_) (AllReadyH.nil)))
      · go_simp
        refine hK.out _ _ ((World.cell?_alloc_lt _ _ ⟨w.heap.size, 0, none⟩ (by simp; omega)).trans hHeld) (fun hHeld => ?_)
        clear hK K
        try simp only [Act.put]
        refine wpAnyH_take (i := 6) (v := ?_) rfl (by kernel_rfl) (by kernel_rfl) (by kernel_rfl) (fun _ _ _ h => h) (Or.inl ⟨by rfl, ?_⟩) (by assumption) ?_
        rotate_left 1
        · intro w hSw; (try dsimp only at hSw); go_simp; first | done | with_reducible rfl
        try simp only [Act.put]
        refine wpAnyH_ready (rs := [7]) (by kernel_rfl) (by simp) (AllReadyH.cons rfl (fun K hK => ?_) (AllReadyH.nil))
        · go_simp
          refine hK.out _ _ ((World.cell?_alloc_lt _ _ ⟨w.heap.size, 0, none⟩ (by simp; omega)).trans hHeld) (fun hHeld => ?_)
          clear hK K
          try simp only [Act.put]
          have hn := (((ownMade W0 (w.heap.size + 1) kk (W0.heap.size) 3 (.int .i64 0) (by simp) (by first | omega | (simp; omega)) (by omega)).alloc (.cells (madeCells #[.bool false] 1) 4)).alloc (.cells #[.int .i64 0, .int .i64 0, .slice none 0 0, .slice none 0 0] 25))
          have ha := ((ownMade (W0.alloc (.cells (madeCells #[.int .i64 0] kk) 3)) (w.heap.size + 1) 1 (W0.heap.size + 1) 4 (.bool false) (by simp) (by first | omega | (simp; omega)) (by omega)).alloc (.cells #[.int .i64 0, .int .i64 0, .slice none 0 0, .slice none 0 0] 25))
          have hblk := (Blk.new ((W0.alloc (.cells (madeCells #[.int .i64 0] kk) 3)).alloc (.cells (madeCells #[.bool false] 1) 4)) 25 #[.int .i64 0, .int .i64 0, .slice none 0 0, .slice none 0 0])
          try simp only [size_alloc_one] at hblk
          have hbx : HasD (((W0.alloc (.cells (madeCells #[.int .i64 0] kk) 3)).alloc (.cells (madeCells #[.bool false] 1) 4)).alloc (.cells #[.int .i64 0, .int .i64 0, .slice none 0 0, .slice none 0 0] 25)) w.heap.size a An an Aa aa := (((HA0.out.alloc (.cells (madeCells #[.int .i64 0] kk) 3)).alloc (.cells (madeCells #[.bool false] 1) 4)).alloc (.cells #[.int .i64 0, .int .i64 0, .slice none 0 0, .slice none 0 0] 25))
          have hby : HasD (((W0.alloc (.cells (madeCells #[.int .i64 0] kk) 3)).alloc (.cells (madeCells #[.bool false] 1) 4)).alloc (.cells #[.int .i64 0, .int .i64 0, .slice none 0 0, .slice none 0 0] 25)) (w.heap.size + 1) b Bn bn Ba ba := (((HB0.out.alloc (.cells (madeCells #[.int .i64 0] kk) 3)).alloc (.cells (madeCells #[.bool false] 1) 4)).alloc (.cells #[.int .i64 0, .int .i64 0, .slice none 0 0, .slice none 0 0] 25))
          have hbe : Below w.heap.size w (((W0.alloc (.cells (madeCells #[.int .i64 0] kk) 3)).alloc (.cells (madeCells #[.bool false] 1) 4)).alloc (.cells #[.int .i64 0, .int .i64 0, .slice none 0 0, .slice none 0 0] 25)) := (bel_alloc (bel_alloc (bel_alloc HW0.out (.cells (madeCells #[.int .i64 0] kk) 3)) (.cells (madeCells #[.bool false] 1) 4)) (.cells #[.int .i64 0, .int .i64 0, .slice none 0 0, .slice none 0 0] 25))
          clear hHeld
          generalize hV : (((W0.alloc (.cells (madeCells #[.int .i64 0] kk) 3)).alloc (.cells (madeCells #[.bool false] 1) 4)).alloc (.cells #[.int .i64 0, .int .i64 0, .slice none 0 0, .slice none 0 0] 25)) = V at hbx hby hbe hblk hn ha ⊢
          clear hV
          have hblk' : Blk V (W0.heap.size + 1 + 1) 25 #[.int .i64 0, .int .i64 0, .slice none 0 0, .slice none 0 0] := hblk
          clear hblk
          generalize hg2 : W0.heap.size + 1 + 1 = g2 at hblk' hn ha ⊢
          generalize hg1 : W0.heap.size + 1 = g1 at hblk' hn ha ⊢
          generalize hg0 : W0.heap.size = g0 at hblk' hn ha ⊢
          have hgl : w.heap.size + 1 < g2 := by omega
          clear hg0 hg1 hg2
          refine wpAnyH_done (by kernel_rfl) ?_ _
          show Oper.wp _ _ _ _ _ _
          obtain ⟨⟨o0, o1, o2, o3⟩, y0, y1, y2, y3⟩ := blk4 hblk'
          have hgl2 := hblk'.lt
          obtain ⟨e1, e2, e3, e4⟩ := none_box (kk := kk) HDA0.out HDB0.out hbx hby hblk' hgl hn ha hbe HCK.out HCS.out HCN.out HCA.out (by omega)
          have E1 := Lib.hid e1; have E2 := Lib.hid e2; have E3 := Lib.hid e3; have E4 := Lib.hid e4
          clear hbx hby hblk' hgl hn ha hbe e1 e2 e3 e4
          go_simp
          go_wp2_with fail
          go_meet
          case rel => exact ⟨_, _, _, rfl, E1, E2, E3, E4⟩
      · go_simp
        refine hK.out _ _ ((World.cell?_alloc_lt _ _ ⟨w.heap.size, 0, none⟩ (by simp; omega)).trans hHeld) (fun hHeld => ?_)
        clear hK K
        try simp only [Act.put]
        refine wpAnyH_ready (rs := [5]) (by kernel_rfl) (by simp) (AllReadyH.cons rfl (fun K hK => ?_) (AllReadyH.nil))
        · go_simp
          refine hK.out _ _ ((World.cell?_alloc_lt _ _ ⟨w.heap.size, 0, none⟩ (by simp; omega)).trans hHeld) (fun hHeld => ?_)
          clear hK K
          try simp only [Act.put]
          refine wpAnyH_take (i := 6) (v := ?_) rfl (by kernel_rfl) (by kernel_rfl) (by kernel_rfl) (fun _ _ _ h => h) (Or.inl ⟨by rfl, ?_⟩) (by assumption) ?_
          rotate_left 1
          · intro w hSw; (try dsimp only at hSw); go_simp; first | done | with_reducible rfl
          try simp only [Act.put]
          have hn := (((ownMade W0 (w.heap.size + 1) kk (W0.heap.size) 3 (.int .i64 0) (by simp) (by first | omega | (simp; omega)) (by omega)).alloc (.cells #[.int .i64 0, .int .i64 0, .slice none 0 0, .slice none 0 0] 25)).alloc (.cells (madeCells #[.bool false] 1) 4))
          have hblk := ((Blk.new (W0.alloc (.cells (madeCells #[.int .i64 0] kk) 3)) 25 #[.int .i64 0, .int .i64 0, .slice none 0 0, .slice none 0 0]).alloc (.cells (madeCells #[.bool false] 1) 4))
          have ha := (ownMade ((W0.alloc (.cells (madeCells #[.int .i64 0] kk) 3)).alloc (.cells #[.int .i64 0, .int .i64 0, .slice none 0 0, .slice none 0 0] 25)) (w.heap.size + 1) 1 (W0.heap.size + 1 + 1) 4 (.bool false) (by simp) (by first | omega | (simp; omega)) (by omega))
          try simp only [size_alloc_one] at hblk
          have hbx : HasD (((W0.alloc (.cells (madeCells #[.int .i64 0] kk) 3)).alloc (.cells #[.int .i64 0, .int .i64 0, .slice none 0 0, .slice none 0 0] 25)).alloc (.cells (madeCells #[.bool false] 1) 4)) w.heap.size a An an Aa aa := (((HA0.out.alloc (.cells (madeCells #[.int .i64 0] kk) 3)).alloc (.cells #[.int .i64 0, .int .i64 0, .slice none 0 0, .slice none 0 0] 25)).alloc (.cells (madeCells #[.bool false] 1) 4))
          have hby : HasD (((W0.alloc (.cells (madeCells #[.int .i64 0] kk) 3)).alloc (.cells #[.int .i64 0, .int .i64 0, .slice none 0 0, .slice none 0 0] 25)).alloc (.cells (madeCells #[.bool false] 1) 4)) (w.heap.size + 1) b Bn bn Ba ba := (((HB0.out.alloc (.cells (madeCells #[.int .i64 0] kk) 3)).alloc (.cells #[.int .i64 0, .int .i64 0, .slice none 0 0, .slice none 0 0] 25)).alloc (.cells (madeCells #[.bool false] 1) 4))
          have hbe : Below w.heap.size w (((W0.alloc (.cells (madeCells #[.int .i64 0] kk) 3)).alloc (.cells #[.int .i64 0, .int .i64 0, .slice none 0 0, .slice none 0 0] 25)).alloc (.cells (madeCells #[.bool false] 1) 4)) := (bel_alloc (bel_alloc (bel_alloc HW0.out (.cells (madeCells #[.int .i64 0] kk) 3)) (.cells #[.int .i64 0, .int .i64 0, .slice none 0 0, .slice none 0 0] 25)) (.cells (madeCells #[.bool false] 1) 4))
          clear hHeld
          generalize hV : (((W0.alloc (.cells (madeCells #[.int .i64 0] kk) 3)).alloc (.cells #[.int .i64 0, .int .i64 0, .slice none 0 0, .slice none 0 0] 25)).alloc (.cells (madeCells #[.bool false] 1) 4)) = V at hbx hby hbe hblk hn ha ⊢
          clear hV
          have hblk' : Blk V (W0.heap.size + 1) 25 #[.int .i64 0, .int .i64 0, .slice none 0 0, .slice none 0 0] := hblk
          clear hblk
          generalize hg2 : W0.heap.size + 1 + 1 = g2 at hblk' hn ha ⊢
          generalize hg1 : W0.heap.size + 1 = g1 at hblk' hn ha ⊢
          generalize hg0 : W0.heap.size = g0 at hblk' hn ha ⊢
          have hgl : w.heap.size + 1 < g1 := by omega
          clear hg0 hg1 hg2
          refine wpAnyH_done (by kernel_rfl) ?_ _
          show Oper.wp _ _ _ _ _ _
          obtain ⟨⟨o0, o1, o2, o3⟩, y0, y1, y2, y3⟩ := blk4 hblk'
          have hgl2 := hblk'.lt
          obtain ⟨e1, e2, e3, e4⟩ := none_box (kk := kk) HDA0.out HDB0.out hbx hby hblk' hgl hn ha hbe HCK.out HCS.out HCN.out HCA.out (by omega)
          have E1 := Lib.hid e1; have E2 := Lib.hid e2; have E3 := Lib.hid e3; have E4 := Lib.hid e4
          clear hbx hby hblk' hgl hn ha hbe e1 e2 e3 e4
          go_simp
          go_wp2_with fail
          go_meet
          case rel => exact ⟨_, _, _, rfl, E1, E2, E3, E4⟩
    · go_simp
      refine hK.out _ _ ((World.cell?_alloc_lt _ _ ⟨w.heap.size, 0, none⟩ (by simp; omega)).trans hHeld) (fun hHeld => ?_)
      clear hK K
      try simp only [Act.put]
      refine wpAnyH_ready (rs := [4, 7]) (by kernel_rfl) (by simp) (AllReadyH.cons rfl (fun K hK => ?_) (AllReadyH.cons rfl (fun K hK => ?_) (AllReadyH.nil)))
      · go_simp
        refine hK.out _ _ ((World.cell?_alloc_lt _ _ ⟨w.heap.size, 0, none⟩ (by simp; omega)).trans hHeld) (fun hHeld => ?_)
        clear hK K
        try simp only [Act.put]
        refine wpAnyH_take (i := 6) (v := ?_) rfl (by kernel_rfl) (by kernel_rfl) (by kernel_rfl) (fun _ _ _ h => h) (Or.inl ⟨by rfl, ?_⟩) (by assumption) ?_
        rotate_left 1
        · intro w hSw; (try dsimp only at hSw); go_simp; first | done | with_reducible rfl
        try simp only [Act.put]
        refine wpAnyH_ready (rs := [7]) (by kernel_rfl) (by simp) (AllReadyH.cons rfl (fun K hK => ?_) (AllReadyH.nil))
        · go_simp
          refine hK.out _ _ ((World.cell?_alloc_lt _ _ ⟨w.heap.size, 0, none⟩ (by simp; omega)).trans hHeld) (fun hHeld => ?_)
          clear hK K
          try simp only [Act.put]
          have ha := (((ownMade W0 (w.heap.size + 1) 1 (W0.heap.size) 4 (.bool false) (by simp) (by first | omega | (simp; omega)) (by omega)).alloc (.cells (madeCells #[.int .i64 0] kk) 3)).alloc (.cells #[.int .i64 0, .int .i64 0, .slice none 0 0, .slice none 0 0] 25))
          have hn := ((ownMade (W0.alloc (.cells (madeCells #[.bool false] 1) 4)) (w.heap.size + 1) kk (W0.heap.size + 1) 3 (.int .i64 0) (by simp) (by first | omega | (simp; omega)) (by omega)).alloc (.cells #[.int .i64 0, .int .i64 0, .slice none 0 0, .slice none 0 0] 25))
          have hblk := (Blk.new ((W0.alloc (.cells (madeCells #[.bool false] 1) 4)).alloc (.cells (madeCells #[.int .i64 0] kk) 3)) 25 #[.int .i64 0, .int .i64 0, .slice none 0 0, .slice none 0 0])
          try simp only [size_alloc_one] at hblk
          have hbx : HasD (((W0.alloc (.cells (madeCells #[.bool false] 1) 4)).alloc (.cells (madeCells #[.int .i64 0] kk) 3)).alloc (.cells #[.int .i64 0, .int .i64 0, .slice none 0 0, .slice none 0 0] 25)) w.heap.size a An an Aa aa := (((HA0.out.alloc (.cells (madeCells #[.bool false] 1) 4)).alloc (.cells (madeCells #[.int .i64 0] kk) 3)).alloc (.cells #[.int .i64 0, .int .i64 0, .slice none 0 0, .slice none 0 0] 25))
          have hby : HasD (((W0.alloc (.cells (madeCells #[.bool false] 1) 4)).alloc (.cells (madeCells #[.int .i64 0] kk) 3)).alloc (.cells #[.int .i64 0, .int .i64 0, .slice none 0 0, .slice none 0 0] 25)) (w.heap.size + 1) b Bn bn Ba ba := (((HB0.out.alloc (.cells (madeCells #[.bool false] 1) 4)).alloc (.cells (madeCells #[.int .i64 0] kk) 3)).alloc (.cells #[.int .i64 0, .int .i64 0, .slice none 0 0, .slice none 0 0] 25))
          have hbe : Below w.heap.size w (((W0.alloc (.cells (madeCells #[.bool false] 1) 4)).alloc (.cells (madeCells #[.int .i64 0] kk) 3)).alloc (.cells #[.int .i64 0, .int .i64 0, .slice none 0 0, .slice none 0 0] 25)) := (bel_alloc (bel_alloc (bel_alloc HW0.out (.cells (madeCells #[.bool false] 1) 4)) (.cells (madeCells #[.int .i64 0] kk) 3)) (.cells #[.int .i64 0, .int .i64 0, .slice none 0 0, .slice none 0 0] 25))
          clear hHeld
          generalize hV : (((W0.alloc (.cells (madeCells #[.bool false] 1) 4)).alloc (.cells (madeCells #[.int .i64 0] kk) 3)).alloc (.cells #[.int .i64 0, .int .i64 0, .slice none 0 0, .slice none 0 0] 25)) = V at hbx hby hbe hblk hn ha ⊢
          clear hV
          have hblk' : Blk V (W0.heap.size + 1 + 1) 25 #[.int .i64 0, .int .i64 0, .slice none 0 0, .slice none 0 0] := hblk
          clear hblk
          generalize hg2 : W0.heap.size + 1 + 1 = g2 at hblk' hn ha ⊢
          generalize hg1 : W0.heap.size + 1 = g1 at hblk' hn ha ⊢
          generalize hg0 : W0.heap.size = g0 at hblk' hn ha ⊢
          have hgl : w.heap.size + 1 < g2 := by omega
          clear hg0 hg1 hg2
          refine wpAnyH_done (by kernel_rfl) ?_ _
          show Oper.wp _ _ _ _ _ _
          obtain ⟨⟨o0, o1, o2, o3⟩, y0, y1, y2, y3⟩ := blk4 hblk'
          have hgl2 := hblk'.lt
          obtain ⟨e1, e2, e3, e4⟩ := none_box (kk := kk) HDA0.out HDB0.out hbx hby hblk' hgl hn ha hbe HCK.out HCS.out HCN.out HCA.out (by omega)
          have E1 := Lib.hid e1; have E2 := Lib.hid e2; have E3 := Lib.hid e3; have E4 := Lib.hid e4
          clear hbx hby hblk' hgl hn ha hbe e1 e2 e3 e4
          go_simp
          go_wp2_with fail
          go_meet
          case rel => exact ⟨_, _, _, rfl, E1, E2, E3, E4⟩
      · go_simp
        refine hK.out _ _ ((World.cell?_alloc_lt _ _ ⟨w.heap.size, 0, none⟩ (by simp; omega)).trans hHeld) (fun hHeld => ?_)
        clear hK K
        try simp only [Act.put]
        refine wpAnyH_ready (rs := [4]) (by kernel_rfl) (by simp) (AllReadyH.cons rfl (fun K hK => ?_) (AllReadyH.nil))
        · go_simp
          refine hK.out _ _ ((World.cell?_alloc_lt _ _ ⟨w.heap.size, 0, none⟩ (by simp; omega)).trans hHeld) (fun hHeld => ?_)
          clear hK K
          try simp only [Act.put]
          refine wpAnyH_take (i := 6) (v := ?_) rfl (by kernel_rfl) (by kernel_rfl) (by kernel_rfl) (fun _ _ _ h => h) (Or.inl ⟨by rfl, ?_⟩) (by assumption) ?_
          rotate_left 1
          · intro w hSw; (try dsimp only at hSw); go_simp; first | done | with_reducible rfl
          try simp only [Act.put]
          have ha := (((ownMade W0 (w.heap.size + 1) 1 (W0.heap.size) 4 (.bool false) (by simp) (by first | omega | (simp; omega)) (by omega)).alloc (.cells #[.int .i64 0, .int .i64 0, .slice none 0 0, .slice none 0 0] 25)).alloc (.cells (madeCells #[.int .i64 0] kk) 3))
          have hblk := ((Blk.new (W0.alloc (.cells (madeCells #[.bool false] 1) 4)) 25 #[.int .i64 0, .int .i64 0, .slice none 0 0, .slice none 0 0]).alloc (.cells (madeCells #[.int .i64 0] kk) 3))
          have hn := (ownMade ((W0.alloc (.cells (madeCells #[.bool false] 1) 4)).alloc (.cells #[.int .i64 0, .int .i64 0, .slice none 0 0, .slice none 0 0] 25)) (w.heap.size + 1) kk (W0.heap.size + 1 + 1) 3 (.int .i64 0) (by simp) (by first | omega | (simp; omega)) (by omega))
          try simp only [size_alloc_one] at hblk
          have hbx : HasD (((W0.alloc (.cells (madeCells #[.bool false] 1) 4)).alloc (.cells #[.int .i64 0, .int .i64 0, .slice none 0 0, .slice none 0 0] 25)).alloc (.cells (madeCells #[.int .i64 0] kk) 3)) w.heap.size a An an Aa aa := (((HA0.out.alloc (.cells (madeCells #[.bool false] 1) 4)).alloc (.cells #[.int .i64 0, .int .i64 0, .slice none 0 0, .slice none 0 0] 25)).alloc (.cells (madeCells #[.int .i64 0] kk) 3))
          have hby : HasD (((W0.alloc (.cells (madeCells #[.bool false] 1) 4)).alloc (.cells #[.int .i64 0, .int .i64 0, .slice none 0 0, .slice none 0 0] 25)).alloc (.cells (madeCells #[.int .i64 0] kk) 3)) (w.heap.size + 1) b Bn bn Ba ba := (((HB0.out.alloc (.cells (madeCells #[.bool false] 1) 4)).alloc (.cells #[.int .i64 0, .int .i64 0, .slice none 0 0, .slice none 0 0] 25)).alloc (.cells (madeCells #[.int .i64 0] kk) 3))
          have hbe : Below w.heap.size w (((W0.alloc (.cells (madeCells #[.bool false] 1) 4)).alloc (.cells #[.int .i64 0, .int .i64 0, .slice none 0 0, .slice none 0 0] 25)).alloc (.cells (madeCells #[.int .i64 0] kk) 3)) := (bel_alloc (bel_alloc (bel_alloc HW0.out (.cells (madeCells #[.bool false] 1) 4)) (.cells #[.int .i64 0, .int .i64 0, .slice none 0 0, .slice none 0 0] 25)) (.cells (madeCells #[.int .i64 0] kk) 3))
          clear hHeld
          generalize hV : (((W0.alloc (.cells (madeCells #[.bool false] 1) 4)).alloc (.cells #[.int .i64 0, .int .i64 0, .slice none 0 0, .slice none 0 0] 25)).alloc (.cells (madeCells #[.int .i64 0] kk) 3)) = V at hbx hby hbe hblk hn ha ⊢
          clear hV
          have hblk' : Blk V (W0.heap.size + 1) 25 #[.int .i64 0, .int .i64 0, .slice none 0 0, .slice none 0 0] := hblk
          clear hblk
          generalize hg2 : W0.heap.size + 1 + 1 = g2 at hblk' hn ha ⊢
          generalize hg1 : W0.heap.size + 1 = g1 at hblk' hn ha ⊢
          generalize hg0 : W0.heap.size = g0 at hblk' hn ha ⊢
          have hgl : w.heap.size + 1 < g1 := by omega
          clear hg0 hg1 hg2
          refine wpAnyH_done (by kernel_rfl) ?_ _
          show Oper.wp _ _ _ _ _ _
          obtain ⟨⟨o0, o1, o2, o3⟩, y0, y1, y2, y3⟩ := blk4 hblk'
          have hgl2 := hblk'.lt
          obtain ⟨e1, e2, e3, e4⟩ := none_box (kk := kk) HDA0.out HDB0.out hbx hby hblk' hgl hn ha hbe HCK.out HCS.out HCN.out HCA.out (by omega)
          have E1 := Lib.hid e1; have E2 := Lib.hid e2; have E3 := Lib.hid e3; have E4 := Lib.hid e4
          clear hbx hby hblk' hgl hn ha hbe e1 e2 e3 e4
          go_simp
          go_wp2_with fail
          go_meet
          case rel => exact ⟨_, _, _, rfl, E1, E2, E3, E4⟩
    · go_simp
      refine hK.out _ _ ((World.cell?_alloc_lt _ _ ⟨w.heap.size, 0, none⟩ (by simp; omega)).trans hHeld) (fun hHeld => ?_)
      clear hK K
      try simp only [Act.put]
      refine wpAnyH_ready (rs := [4, 5]) (by kernel_rfl) (by simp) (AllReadyH.cons rfl (fun K hK => ?_) (AllReadyH.cons rfl (fun K hK => ?_) (AllReadyH.nil)))
      · go_simp
        refine hK.out _ _ ((World.cell?_alloc_lt _ _ ⟨w.heap.size, 0, none⟩ (by simp; omega)).trans hHeld) (fun hHeld => ?_)
        clear hK K
        try simp only [Act.put]
        refine wpAnyH_ready (rs := [5]) (by kernel_rfl) (by simp) (AllReadyH.cons rfl (fun K hK => ?_) (AllReadyH.nil))
        · go_simp
          refine hK.out _ _ ((World.cell?_alloc_lt _ _ ⟨w.heap.size, 0, none⟩ (by simp; omega)).trans hHeld) (fun hHeld => ?_)
          clear hK K
          try simp only [Act.put]
          refine wpAnyH_take (i := 6) (v := ?_) rfl (by kernel_rfl) (by kernel_rfl) (by kernel_rfl) (fun _ _ _ h => h) (Or.inl ⟨by rfl, ?_⟩) (by assumption) ?_
          rotate_left 1
          · intro w hSw; (try dsimp only at hSw); go_simp; first | done | with_reducible rfl
          try simp only [Act.put]
          have hblk := (((Blk.new W0 25 #[.int .i64 0, .int .i64 0, .slice none 0 0, .slice none 0 0]).alloc (.cells (madeCells #[.int .i64 0] kk) 3)).alloc (.cells (madeCells #[.bool false] 1) 4))
          have hn := ((ownMade (W0.alloc (.cells #[.int .i64 0, .int .i64 0, .slice none 0 0, .slice none 0 0] 25)) (w.heap.size + 1) kk (W0.heap.size + 1) 3 (.int .i64 0) (by simp) (by first | omega | (simp; omega)) (by omega)).alloc (.cells (madeCells #[.bool false] 1) 4))
          have ha := (ownMade ((W0.alloc (.cells #[.int .i64 0, .int .i64 0, .slice none 0 0, .slice none 0 0] 25)).alloc (.cells (madeCells #[.int .i64 0] kk) 3)) (w.heap.size + 1) 1 (W0.heap.size + 1 + 1) 4 (.bool false) (by simp) (by first | omega | (simp; omega)) (by omega))
          try simp only [size_alloc_one] at hblk
          have hbx : HasD (((W0.alloc (.cells #[.int .i64 0, .int .i64 0, .slice none 0 0, .slice none 0 0] 25)).alloc (.cells (madeCells #[.int .i64 0] kk) 3)).alloc (.cells (madeCells #[.bool false] 1) 4)) w.heap.size a An an Aa aa := (((HA0.out.alloc (.cells #[.int .i64 0, .int .i64 0, .slice none 0 0, .slice none 0 0] 25)).alloc (.cells (madeCells #[.int .i64 0] kk) 3)).alloc (.cells (madeCells #[.bool false] 1) 4))
          have hby : HasD (((W0.alloc (.cells #[.int .i64 0, .int .i64 0, .slice none 0 0, .slice none 0 0] 25)).alloc (.cells (madeCells #[.int .i64 0] kk) 3)).alloc (.cells (madeCells #[.bool false] 1) 4)) (w.heap.size + 1) b Bn bn Ba ba := (((HB0.out.alloc (.cells #[.int .i64 0, .int .i64 0, .slice none 0 0, .slice none 0 0] 25)).alloc (.cells (madeCells #[.int .i64 0] kk) 3)).alloc (.cells (madeCells #[.bool false] 1) 4))
          have hbe : Below w.heap.size w (((W0.alloc (.cells #[.int .i64 0, .int .i64 0, .slice none 0 0, .slice none 0 0] 25)).alloc (.cells (madeCells #[.int .i64 0] kk) 3)).alloc (.cells (madeCells #[.bool false] 1) 4)) := (bel_alloc (bel_alloc (bel_alloc HW0.out (.cells #[.int .i64 0, .int .i64 0, .slice none 0 0, .slice none 0 0] 25)) (.cells (madeCells #[.int .i64 0] kk) 3)) (.cells (madeCells #[.bool false] 1) 4))
          clear hHeld
          generalize hV : (((W0.alloc (.cells #[.int .i64 0, .int .i64 0, .slice none 0 0, .slice none 0 0] 25)).alloc (.cells (madeCells #[.int .i64 0] kk) 3)).alloc (.cells (madeCells #[.bool false] 1) 4)) = V at hbx hby hbe hblk hn ha ⊢
          clear hV
          have hblk' : Blk V (W0.heap.size) 25 #[.int .i64 0, .int .i64 0, .slice none 0 0, .slice none 0 0] := hblk
          clear hblk
          generalize hg2 : W0.heap.size + 1 + 1 = g2 at hblk' hn ha ⊢
          generalize hg1 : W0.heap.size + 1 = g1 at hblk' hn ha ⊢
          generalize hg0 : W0.heap.size = g0 at hblk' hn ha ⊢
          have hgl : w.heap.size + 1 < g0 := by omega
          clear hg0 hg1 hg2
          refine wpAnyH_done (by kernel_rfl) ?_ _
          show Oper.wp _ _ _ _ _ _
          obtain ⟨⟨o0, o1, o2, o3⟩, y0, y1, y2, y3⟩ := blk4 hblk'
          have hgl2 := hblk'.lt
          obtain ⟨e1, e2, e3, e4⟩ := none_box (kk := kk) HDA0.out HDB0.out hbx hby hblk' hgl hn ha hbe HCK.out HCS.out HCN.out HCA.out (by omega)
          have E1 := Lib.hid e1; have E2 := Lib.hid e2; have E3 := Lib.hid e3; have E4 := Lib.hid e4
          clear hbx hby hblk' hgl hn ha hbe e1 e2 e3 e4
          go_simp
          go_wp2_with fail
          go_meet
          case rel => exact ⟨_, _, _, rfl, E1, E2, E3, E4⟩
      · go_simp
        refine hK.out _ _ ((World.cell?_alloc_lt _ _ ⟨w.heap.size, 0, none⟩ (by simp; omega)).trans hHeld) (fun hHeld => ?_)
        clear hK K
        try simp only [Act.put]
        refine wpAnyH_ready (rs := [4]) (by kernel_rfl) (by simp) (AllReadyH.cons rfl (fun K hK => ?_) (AllReadyH.nil))
        · go_simp
          refine hK.out _ _ ((World.cell?_alloc_lt _ _ ⟨w.heap.size, 0, none⟩ (by simp; omega)).trans hHeld) (fun hHeld => ?_)
          clear hK K
          try simp only [Act.put]
          refine wpAnyH_take (i := 6) (v := ?_) rfl (by kernel_rfl) (by kernel_rfl) (by kernel_rfl) (fun _ _ _ h => h) (Or.inl ⟨by rfl, ?_⟩) (by assumption) ?_
          rotate_left 1
          · intro w hSw; (try dsimp only at hSw); go_simp; first | done | with_reducible rfl
          try simp only [Act.put]
          have hblk := (((Blk.new W0 25 #[.int .i64 0, .int .i64 0, .slice none 0 0, .slice none 0 0]).alloc (.cells (madeCells #[.bool false] 1) 4)).alloc (.cells (madeCells #[.int .i64 0] kk) 3))
          have ha := ((ownMade (W0.alloc (.cells #[.int .i64 0, .int .i64 0, .slice none 0 0, .slice none 0 0] 25)) (w.heap.size + 1) 1 (W0.heap.size + 1) 4 (.bool false) (by simp) (by first | omega | (simp; omega)) (by omega)).alloc (.cells (madeCells #[.int .i64 0] kk) 3))
          have hn := (ownMade ((W0.alloc (.cells #[.int .i64 0, .int .i64 0, .slice none 0 0, .slice none 0 0] 25)).alloc (.cells (madeCells #[.bool false] 1) 4)) (w.heap.size + 1) kk (W0.heap.size + 1 + 1) 3 (.int .i64 0) (by simp) (by first | omega | (simp; omega)) (by omega))
          try simp only [size_alloc_one] at hblk
          have hbx : HasD (((W0.alloc (.cells #[.int .i64 0, .int .i64 0, .slice none 0 0, .slice none 0 0] 25)).alloc (.cells (madeCells #[.bool false] 1) 4)).alloc (.cells (madeCells #[.int .i64 0] kk) 3)) w.heap.size a An an Aa aa := (((HA0.out.alloc (.cells #[.int .i64 0, .int .i64 0, .slice none 0 0, .slice none 0 0] 25)).alloc (.cells (madeCells #[.bool false] 1) 4)).alloc (.cells (madeCells #[.int .i64 0] kk) 3))
          have hby : HasD (((W0.alloc (.cells #[.int .i64 0, .int .i64 0, .slice none 0 0, .slice none 0 0] 25)).alloc (.cells (madeCells #[.bool false] 1) 4)).alloc (.cells (madeCells #[.int .i64 0] kk) 3)) (w.heap.size + 1) b Bn bn Ba ba := (((HB0.out.alloc (.cells #[.int .i64 0, .int .i64 0, .slice none 0 0, .slice none 0 0] 25)).alloc (.cells (madeCells #[.bool false] 1) 4)).alloc (.cells (madeCells #[.int .i64 0] kk) 3))
          have hbe : Below w.heap.size w (((W0.alloc (.cells #[.int .i64 0, .int .i64 0, .slice none 0 0, .slice none 0 0] 25)).alloc (.cells (madeCells #[.bool false] 1) 4)).alloc (.cells (madeCells #[.int .i64 0] kk) 3)) := (bel_alloc (bel_alloc (bel_alloc HW0.out (.cells #[.int .i64 0, .int .i64 0, .slice none 0 0, .slice none 0 0] 25)) (.cells (madeCells #[.bool false] 1) 4)) (.cells (madeCells #[.int .i64 0] kk) 3))
          clear hHeld
          generalize hV : (((W0.alloc (.cells #[.int .i64 0, .int .i64 0, .slice none 0 0, .slice none 0 0] 25)).alloc (.cells (madeCells #[.bool false] 1) 4)).alloc (.cells (madeCells #[.int .i64 0] kk) 3)) = V at hbx hby hbe hblk hn ha ⊢
          clear hV
          have hblk' : Blk V (W0.heap.size) 25 #[.int .i64 0, .int .i64 0, .slice none 0 0, .slice none 0 0] := hblk
          clear hblk
          generalize hg2 : W0.heap.size + 1 + 1 = g2 at hblk' hn ha ⊢
          generalize hg1 : W0.heap.size + 1 = g1 at hblk' hn ha ⊢
          generalize hg0 : W0.heap.size = g0 at hblk' hn ha ⊢
          have hgl : w.heap.size + 1 < g0 := by omega
          clear hg0 hg1 hg2
          refine wpAnyH_done (by kernel_rfl) ?_ _
          show Oper.wp _ _ _ _ _ _
          obtain ⟨⟨o0, o1, o2, o3⟩, y0, y1, y2, y3⟩ := blk4 hblk'
          have hgl2 := hblk'.lt
          obtain ⟨e1, e2, e3, e4⟩ := none_box (kk := kk) HDA0.out HDB0.out hbx hby hblk' hgl hn ha hbe HCK.out HCS.out HCN.out HCA.out (by omega)
          have E1 := Lib.hid e1; have E2 := Lib.hid e2; have E3 := Lib.hid e3; have E4 := Lib.hid e4
          clear hbx hby hblk' hgl hn ha hbe e1 e2 e3 e4
          go_simp
          go_wp2_with fail
          go_meet
          case rel => exact ⟨_, _, _, rfl, E1, E2, E3, E4⟩
  case rest =>
    obtain ⟨go, gn, ga, rfl, HAc, HBc, HCc, HWc⟩ := hcut
    clear Ha Hb HW a0 a1 a2 a3 b0 b1 b2 b3 lta ltb hmkn hmka hs1
    have Ha := HAc; have Hb := HBc; have Hc := HCc; have HW := HWc
    clear HAc HBc HCc HWc
    obtain ⟨a0, a1, a2, a3⟩ := Ha.out.cells
    have lta := Ha.out.lt
    obtain ⟨b0, b1, b2, b3⟩ := Hb.out.cells
    have ltb := Hb.out.lt
    obtain ⟨c0, c1, c2, c3⟩ := Hc.out.cells
    have ltc := Hc.out.lt
    go_wp2_with fail
    refine (C38.out _ Ha.out.din Hb.out.din).mono ?_
    rintro e w9 ⟨r1, rfl, h1, hb⟩
    replace Ha := Lib.hid (Ha.out.up hb)
    replace Hb := Lib.hid (Hb.out.up hb)
    replace Hc := Lib.hid (Hc.out.up hb)
    replace HW := Lib.hid (bel_step HW.out hb)
    clear a0 a1 a2 a3 lta
    clear b0 b1 b2 b3 ltb
    clear c0 c1 c2 c3 ltc
    clear hb
    obtain rfl : r1 = sm := by rw [Bool.eq_iff_iff]; exact h1.trans HSM.out.symm
    clear h1
    obtain ⟨a0, a1, a2, a3⟩ := Ha.out.cells
    have lta := Ha.out.lt
    obtain ⟨b0, b1, b2, b3⟩ := Hb.out.cells
    have ltb := Hb.out.lt
    obtain ⟨c0, c1, c2, c3⟩ := Hc.out.cells
    have ltc := Hc.out.lt
    go_wp2_with fail
    refine (C65.out _ Ha.out.din Hb.out.din).mono ?_
    rintro e w10 ⟨r2, rfl, h1, hb⟩
    replace Ha := Lib.hid (Ha.out.up hb)
    replace Hb := Lib.hid (Hb.out.up hb)
    replace Hc := Lib.hid (Hc.out.up hb)
    replace HW := Lib.hid (bel_step HW.out hb)
    clear a0 a1 a2 a3 lta
    clear b0 b1 b2 b3 ltb
    clear c0 c1 c2 c3 ltc
    clear hb
    obtain rfl : r2 = i1 := by rw [Bool.eq_iff_iff]; exact h1.trans HI1.out.symm
    clear h1
    obtain ⟨a0, a1, a2, a3⟩ := Ha.out.cells
    have lta := Ha.out.lt
    obtain ⟨b0, b1, b2, b3⟩ := Hb.out.cells
    have ltb := Hb.out.lt
    obtain ⟨c0, c1, c2, c3⟩ := Hc.out.cells
    have ltc := Hc.out.lt
    go_wp2_with fail
    refine (C38c.out _ _ _ _ _ Ha.out.din Hc.out.din).mono ?_
    rintro e w11 ⟨r3, rfl, h1, hb⟩
    replace Ha := Lib.hid (Ha.out.up hb)
    replace Hb := Lib.hid (Hb.out.up hb)
    replace Hc := Lib.hid (Hc.out.up hb)
    replace HW := Lib.hid (bel_step HW.out hb)
    clear a0 a1 a2 a3 lta
    clear b0 b1 b2 b3 ltb
    clear c0 c1 c2 c3 ltc
    clear hb
    obtain rfl : r3 = em := by rw [Bool.eq_iff_iff]; exact h1.trans (HCE.out.trans HEM.out.symm)
    clear h1
    obtain ⟨a0, a1, a2, a3⟩ := Ha.out.cells
    have lta := Ha.out.lt
    obtain ⟨b0, b1, b2, b3⟩ := Hb.out.cells
    have ltb := Hb.out.lt
    obtain ⟨c0, c1, c2, c3⟩ := Hc.out.cells
    have ltc := Hc.out.lt
    go_wp2_with fail
    go_ret
    exact ⟨ret_bool (by simp), HW.out⟩
theorem tightCompares_law (a b : D) (An Aa Bn Ba : Option Addr) (an aa bn ba : Nat) (w : World) (ha : DIn w a An Aa) (hb : DIn w b Bn Ba) :
    Calls Try.prog 17 #[dfaV a.K a.S An a.N.length an Aa a.A.length aa, dfaV b.K b.S Bn b.N.length bn Ba b.A.length ba] w (Ret (.bool true) w) := by
  rcases ga : a.great with _ | _
  · rcases gb : b.great with _ | _
    · rcases ra : a.right with _ | _
      · exact tightCompares_ra a b An Aa Bn Ba an aa bn ba w ha hb ga gb ra
      · rcases rb : b.right with _ | _
        · exact tightCompares_rb a b An Aa Bn Ba an aa bn ba w ha hb ga gb ra rb
        · by_cases hK : a.K = b.K
          · exact tightCompares_main a b An Aa Bn Ba an aa bn ba w ha hb ga gb ra rb hK
          · exact tightCompares_k a b An Aa Bn Ba an aa bn ba w ha hb ga gb ra rb (bne_iff_ne.2 hK)
    · exact tightCompares_gb a b An Aa Bn Ba an aa bn ba w ha hb ga gb
  · exact tightCompares_ga a b An Aa Bn Ba an aa bn ba w ha hb ga
end Go.Proofs.Ytmpcoclgcldclaa
