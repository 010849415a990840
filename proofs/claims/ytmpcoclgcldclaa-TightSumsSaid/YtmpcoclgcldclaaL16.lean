/- The walk of the law TightSums. -/
import Derived.Test.YtmpcoclgcldclaaUM
namespace Go.Proofs.Ytmpcoclgcldclaa
open Go.RowKit
attribute [local go_sem ↓] Go.wp_at_zero Go.wp_at_succ

set_option maxHeartbeats 4000000 in
set_option maxRecDepth 100000 in
theorem tightSums_ga (a b : D) (n : Int) (An Aa Bn Ba : Option Addr) (an aa bn ba : Nat) (w : World) (ha : DIn w a An Aa) (hb : DIn w b Bn Ba) (ga : a.great = true) :
    Calls Try.prog 16 #[dfaV a.K a.S An a.N.length an Aa a.A.length aa, dfaV b.K b.S Bn b.N.length bn Ba b.A.length ba, .int .u8 n] w (Ret (.bool true) w) := by
  have GA := Lib.hid ga; clear ga
  have Ha := Lib.hid ((HasD.new ha an aa).alloc (.cells #[.int .i64 b.K, .int .i64 b.S, .slice Bn b.N.length bn, .slice Ba b.A.length ba] 25))
  have Hb : Hid (HasD ((w.alloc (.cells #[.int .i64 a.K, .int .i64 a.S, .slice An a.N.length an, .slice Aa a.A.length aa] 25)).alloc (.cells #[.int .i64 b.K, .int .i64 b.S, .slice Bn b.N.length bn, .slice Ba b.A.length ba] 25)) (w.heap.size + 1) b Bn bn Ba ba) := HasD.newAt (hb.alloc _) bn ba (by simp)
  have HW := Lib.hid (bel_alloc (bel_new w (.cells #[.int .i64 a.K, .int .i64 a.S, .slice An a.N.length an, .slice Aa a.A.length aa] 25)) (.cells #[.int .i64 b.K, .int .i64 b.S, .slice Bn b.N.length bn, .slice Ba b.A.length ba] 25))
  clear ha hb
  go_enter Try.func16, Try.ntmps16
  go_wp2_with fail
  refine (tightAlive_any _).mono ?_
  rintro e w1 ⟨rfl, hb⟩
  replace Ha := Lib.hid (Ha.out.up hb)
  replace Hb := Lib.hid (Hb.out.up hb)
  replace HW := Lib.hid (bel_step HW.out hb)
  clear hb
  obtain ⟨a0, a1, a2, a3⟩ := Ha.out.cells
  have lta := Ha.out.lt
  obtain ⟨b0, b1, b2, b3⟩ := Hb.out.cells
  have ltb := Hb.out.lt
  go_wp2_with fail
  refine (great16_c a An Aa an aa _).mono ?_
  rintro e w2 ⟨rfl, hb⟩
  replace Ha := Lib.hid (Ha.out.up hb)
  replace Hb := Lib.hid (Hb.out.up hb)
  replace HW := Lib.hid (bel_step HW.out hb)
  clear a0 a1 a2 a3 lta
  clear b0 b1 b2 b3 ltb
  clear hb
  obtain ⟨a0, a1, a2, a3⟩ := Ha.out.cells
  have lta := Ha.out.lt
  obtain ⟨b0, b1, b2, b3⟩ := Hb.out.cells
  have ltb := Hb.out.lt
  rw [GA.out]
  go_wp2_with fail
  go_ret
  exact ⟨rfl, HW.out⟩
set_option maxHeartbeats 4000000 in
set_option maxRecDepth 100000 in
theorem tightSums_gb (a b : D) (n : Int) (An Aa Bn Ba : Option Addr) (an aa bn ba : Nat) (w : World) (ha : DIn w a An Aa) (hb : DIn w b Bn Ba) (ga : a.great = false) (gb : b.great = true) :
    Calls Try.prog 16 #[dfaV a.K a.S An a.N.length an Aa a.A.length aa, dfaV b.K b.S Bn b.N.length bn Ba b.A.length ba, .int .u8 n] w (Ret (.bool true) w) := by
  have GA := Lib.hid ga; clear ga
  have GB := Lib.hid gb; clear gb
  have Ha := Lib.hid ((HasD.new ha an aa).alloc (.cells #[.int .i64 b.K, .int .i64 b.S, .slice Bn b.N.length bn, .slice Ba b.A.length ba] 25))
  have Hb : Hid (HasD ((w.alloc (.cells #[.int .i64 a.K, .int .i64 a.S, .slice An a.N.length an, .slice Aa a.A.length aa] 25)).alloc (.cells #[.int .i64 b.K, .int .i64 b.S, .slice Bn b.N.length bn, .slice Ba b.A.length ba] 25)) (w.heap.size + 1) b Bn bn Ba ba) := HasD.newAt (hb.alloc _) bn ba (by simp)
  have HW := Lib.hid (bel_alloc (bel_new w (.cells #[.int .i64 a.K, .int .i64 a.S, .slice An a.N.length an, .slice Aa a.A.length aa] 25)) (.cells #[.int .i64 b.K, .int .i64 b.S, .slice Bn b.N.length bn, .slice Ba b.A.length ba] 25))
  clear ha hb
  go_enter Try.func16, Try.ntmps16
  go_wp2_with fail
  refine (tightAlive_any _).mono ?_
  rintro e w1 ⟨rfl, hb⟩
  replace Ha := Lib.hid (Ha.out.up hb)
  replace Hb := Lib.hid (Hb.out.up hb)
  replace HW := Lib.hid (bel_step HW.out hb)
  clear hb
  obtain ⟨a0, a1, a2, a3⟩ := Ha.out.cells
  have lta := Ha.out.lt
  obtain ⟨b0, b1, b2, b3⟩ := Hb.out.cells
  have ltb := Hb.out.lt
  go_wp2_with fail
  refine (great16_c a An Aa an aa _).mono ?_
  rintro e w2 ⟨rfl, hb⟩
  replace Ha := Lib.hid (Ha.out.up hb)
  replace Hb := Lib.hid (Hb.out.up hb)
  replace HW := Lib.hid (bel_step HW.out hb)
  clear a0 a1 a2 a3 lta
  clear b0 b1 b2 b3 ltb
  clear hb
  obtain ⟨a0, a1, a2, a3⟩ := Ha.out.cells
  have lta := Ha.out.lt
  obtain ⟨b0, b1, b2, b3⟩ := Hb.out.cells
  have ltb := Hb.out.lt
  rw [GA.out]
  go_wp2_with fail
  refine (great16_c b Bn Ba bn ba _).mono ?_
  rintro e w3 ⟨rfl, hb⟩
  replace Ha := Lib.hid (Ha.out.up hb)
  replace Hb := Lib.hid (Hb.out.up hb)
  replace HW := Lib.hid (bel_step HW.out hb)
  clear a0 a1 a2 a3 lta
  clear b0 b1 b2 b3 ltb
  clear hb
  obtain ⟨a0, a1, a2, a3⟩ := Ha.out.cells
  have lta := Ha.out.lt
  obtain ⟨b0, b1, b2, b3⟩ := Hb.out.cells
  have ltb := Hb.out.lt
  rw [GB.out]
  go_wp2_with fail
  go_ret
  exact ⟨rfl, HW.out⟩
set_option maxHeartbeats 4000000 in
set_option maxRecDepth 100000 in
theorem tightSums_ra (a b : D) (n : Int) (An Aa Bn Ba : Option Addr) (an aa bn ba : Nat) (w : World) (ha : DIn w a An Aa) (hb : DIn w b Bn Ba) (ga : a.great = false) (gb : b.great = false) (ra : a.right = false) :
    Calls Try.prog 16 #[dfaV a.K a.S An a.N.length an Aa a.A.length aa, dfaV b.K b.S Bn b.N.length bn Ba b.A.length ba, .int .u8 n] w (Ret (.bool true) w) := by
  have GA := Lib.hid ga; clear ga
  have GB := Lib.hid gb; clear gb
  have RA := Lib.hid ra; clear ra
  have Ha := Lib.hid ((HasD.new ha an aa).alloc (.cells #[.int .i64 b.K, .int .i64 b.S, .slice Bn b.N.length bn, .slice Ba b.A.length ba] 25))
  have Hb : Hid (HasD ((w.alloc (.cells #[.int .i64 a.K, .int .i64 a.S, .slice An a.N.length an, .slice Aa a.A.length aa] 25)).alloc (.cells #[.int .i64 b.K, .int .i64 b.S, .slice Bn b.N.length bn, .slice Ba b.A.length ba] 25)) (w.heap.size + 1) b Bn bn Ba ba) := HasD.newAt (hb.alloc _) bn ba (by simp)
  have HW := Lib.hid (bel_alloc (bel_new w (.cells #[.int .i64 a.K, .int .i64 a.S, .slice An a.N.length an, .slice Aa a.A.length aa] 25)) (.cells #[.int .i64 b.K, .int .i64 b.S, .slice Bn b.N.length bn, .slice Ba b.A.length ba] 25))
  clear ha hb
  go_enter Try.func16, Try.ntmps16
  go_wp2_with fail
  refine (tightAlive_any _).mono ?_
  rintro e w1 ⟨rfl, hb⟩
  replace Ha := Lib.hid (Ha.out.up hb)
  replace Hb := Lib.hid (Hb.out.up hb)
  replace HW := Lib.hid (bel_step HW.out hb)
  clear hb
  obtain ⟨a0, a1, a2, a3⟩ := Ha.out.cells
  have lta := Ha.out.lt
  obtain ⟨b0, b1, b2, b3⟩ := Hb.out.cells
  have ltb := Hb.out.lt
  go_wp2_with fail
  refine (great16_c a An Aa an aa _).mono ?_
  rintro e w2 ⟨rfl, hb⟩
  replace Ha := Lib.hid (Ha.out.up hb)
  replace Hb := Lib.hid (Hb.out.up hb)
  replace HW := Lib.hid (bel_step HW.out hb)
  clear a0 a1 a2 a3 lta
  clear b0 b1 b2 b3 ltb
  clear hb
  obtain ⟨a0, a1, a2, a3⟩ := Ha.out.cells
  have lta := Ha.out.lt
  obtain ⟨b0, b1, b2, b3⟩ := Hb.out.cells
  have ltb := Hb.out.lt
  rw [GA.out]
  go_wp2_with fail
  refine (great16_c b Bn Ba bn ba _).mono ?_
  rintro e w3 ⟨rfl, hb⟩
  replace Ha := Lib.hid (Ha.out.up hb)
  replace Hb := Lib.hid (Hb.out.up hb)
  replace HW := Lib.hid (bel_step HW.out hb)
  clear a0 a1 a2 a3 lta
  clear b0 b1 b2 b3 ltb
  clear hb
  obtain ⟨a0, a1, a2, a3⟩ := Ha.out.cells
  have lta := Ha.out.lt
  obtain ⟨b0, b1, b2, b3⟩ := Hb.out.cells
  have ltb := Hb.out.lt
  rw [GB.out]
  go_wp2_with fail
  refine (right_c Ha.out.din an aa).mono ?_
  rintro e w4 ⟨rfl, hb⟩
  replace Ha := Lib.hid (Ha.out.up hb)
  replace Hb := Lib.hid (Hb.out.up hb)
  replace HW := Lib.hid (bel_step HW.out hb)
  clear a0 a1 a2 a3 lta
  clear b0 b1 b2 b3 ltb
  clear hb
  obtain ⟨a0, a1, a2, a3⟩ := Ha.out.cells
  have lta := Ha.out.lt
  obtain ⟨b0, b1, b2, b3⟩ := Hb.out.cells
  have ltb := Hb.out.lt
  rw [RA.out]
  go_wp2_with fail
  go_ret
  exact ⟨rfl, HW.out⟩
set_option maxHeartbeats 4000000 in
set_option maxRecDepth 100000 in
theorem tightSums_rb (a b : D) (n : Int) (An Aa Bn Ba : Option Addr) (an aa bn ba : Nat) (w : World) (ha : DIn w a An Aa) (hb : DIn w b Bn Ba) (ga : a.great = false) (gb : b.great = false) (ra : a.right = true) (rb : b.right = false) :
    Calls Try.prog 16 #[dfaV a.K a.S An a.N.length an Aa a.A.length aa, dfaV b.K b.S Bn b.N.length bn Ba b.A.length ba, .int .u8 n] w (Ret (.bool true) w) := by
  have GA := Lib.hid ga; clear ga
  have GB := Lib.hid gb; clear gb
  have RA := Lib.hid ra; clear ra
  have RB := Lib.hid rb; clear rb
  have Ha := Lib.hid ((HasD.new ha an aa).alloc (.cells #[.int .i64 b.K, .int .i64 b.S, .slice Bn b.N.length bn, .slice Ba b.A.length ba] 25))
  have Hb : Hid (HasD ((w.alloc (.cells #[.int .i64 a.K, .int .i64 a.S, .slice An a.N.length an, .slice Aa a.A.length aa] 25)).alloc (.cells #[.int .i64 b.K, .int .i64 b.S, .slice Bn b.N.length bn, .slice Ba b.A.length ba] 25)) (w.heap.size + 1) b Bn bn Ba ba) := HasD.newAt (hb.alloc _) bn ba (by simp)
  have HW := Lib.hid (bel_alloc (bel_new w (.cells #[.int .i64 a.K, .int .i64 a.S, .slice An a.N.length an, .slice Aa a.A.length aa] 25)) (.cells #[.int .i64 b.K, .int .i64 b.S, .slice Bn b.N.length bn, .slice Ba b.A.length ba] 25))
  clear ha hb
  go_enter Try.func16, Try.ntmps16
  go_wp2_with fail
  refine (tightAlive_any _).mono ?_
  rintro e w1 ⟨rfl, hb⟩
  replace Ha := Lib.hid (Ha.out.up hb)
  replace Hb := Lib.hid (Hb.out.up hb)
  replace HW := Lib.hid (bel_step HW.out hb)
  clear hb
  obtain ⟨a0, a1, a2, a3⟩ := Ha.out.cells
  have lta := Ha.out.lt
  obtain ⟨b0, b1, b2, b3⟩ := Hb.out.cells
  have ltb := Hb.out.lt
  go_wp2_with fail
  refine (great16_c a An Aa an aa _).mono ?_
  rintro e w2 ⟨rfl, hb⟩
  replace Ha := Lib.hid (Ha.out.up hb)
  replace Hb := Lib.hid (Hb.out.up hb)
  replace HW := Lib.hid (bel_step HW.out hb)
  clear a0 a1 a2 a3 lta
  clear b0 b1 b2 b3 ltb
  clear hb
  obtain ⟨a0, a1, a2, a3⟩ := Ha.out.cells
  have lta := Ha.out.lt
  obtain ⟨b0, b1, b2, b3⟩ := Hb.out.cells
  have ltb := Hb.out.lt
  rw [GA.out]
  go_wp2_with fail
  refine (great16_c b Bn Ba bn ba _).mono ?_
  rintro e w3 ⟨rfl, hb⟩
  replace Ha := Lib.hid (Ha.out.up hb)
  replace Hb := Lib.hid (Hb.out.up hb)
  replace HW := Lib.hid (bel_step HW.out hb)
  clear a0 a1 a2 a3 lta
  clear b0 b1 b2 b3 ltb
  clear hb
  obtain ⟨a0, a1, a2, a3⟩ := Ha.out.cells
  have lta := Ha.out.lt
  obtain ⟨b0, b1, b2, b3⟩ := Hb.out.cells
  have ltb := Hb.out.lt
  rw [GB.out]
  go_wp2_with fail
  refine (right_c Ha.out.din an aa).mono ?_
  rintro e w4 ⟨rfl, hb⟩
  replace Ha := Lib.hid (Ha.out.up hb)
  replace Hb := Lib.hid (Hb.out.up hb)
  replace HW := Lib.hid (bel_step HW.out hb)
  clear a0 a1 a2 a3 lta
  clear b0 b1 b2 b3 ltb
  clear hb
  obtain ⟨a0, a1, a2, a3⟩ := Ha.out.cells
  have lta := Ha.out.lt
  obtain ⟨b0, b1, b2, b3⟩ := Hb.out.cells
  have ltb := Hb.out.lt
  rw [RA.out]
  go_wp2_with fail
  refine (right_c Hb.out.din bn ba).mono ?_
  rintro e w5 ⟨rfl, hb⟩
  replace Ha := Lib.hid (Ha.out.up hb)
  replace Hb := Lib.hid (Hb.out.up hb)
  replace HW := Lib.hid (bel_step HW.out hb)
  clear a0 a1 a2 a3 lta
  clear b0 b1 b2 b3 ltb
  clear hb
  obtain ⟨a0, a1, a2, a3⟩ := Ha.out.cells
  have lta := Ha.out.lt
  obtain ⟨b0, b1, b2, b3⟩ := Hb.out.cells
  have ltb := Hb.out.lt
  rw [RB.out]
  go_wp2_with fail
  go_ret
  exact ⟨rfl, HW.out⟩
set_option maxHeartbeats 4000000 in
set_option maxRecDepth 100000 in
theorem tightSums_k (a b : D) (n : Int) (An Aa Bn Ba : Option Addr) (an aa bn ba : Nat) (w : World) (ha : DIn w a An Aa) (hb : DIn w b Bn Ba) (ga : a.great = false) (gb : b.great = false) (ra : a.right = true) (rb : b.right = true) (hK : (a.K != b.K) = true) :
    Calls Try.prog 16 #[dfaV a.K a.S An a.N.length an Aa a.A.length aa, dfaV b.K b.S Bn b.N.length bn Ba b.A.length ba, .int .u8 n] w (Ret (.bool true) w) := by
  have GA := Lib.hid ga; clear ga
  have GB := Lib.hid gb; clear gb
  have RA := Lib.hid ra; clear ra
  have RB := Lib.hid rb; clear rb
  have Ha := Lib.hid ((HasD.new ha an aa).alloc (.cells #[.int .i64 b.K, .int .i64 b.S, .slice Bn b.N.length bn, .slice Ba b.A.length ba] 25))
  have Hb : Hid (HasD ((w.alloc (.cells #[.int .i64 a.K, .int .i64 a.S, .slice An a.N.length an, .slice Aa a.A.length aa] 25)).alloc (.cells #[.int .i64 b.K, .int .i64 b.S, .slice Bn b.N.length bn, .slice Ba b.A.length ba] 25)) (w.heap.size + 1) b Bn bn Ba ba) := HasD.newAt (hb.alloc _) bn ba (by simp)
  have HW := Lib.hid (bel_alloc (bel_new w (.cells #[.int .i64 a.K, .int .i64 a.S, .slice An a.N.length an, .slice Aa a.A.length aa] 25)) (.cells #[.int .i64 b.K, .int .i64 b.S, .slice Bn b.N.length bn, .slice Ba b.A.length ba] 25))
  clear ha hb
  go_enter Try.func16, Try.ntmps16
  go_wp2_with fail
  refine (tightAlive_any _).mono ?_
  rintro e w1 ⟨rfl, hb⟩
  replace Ha := Lib.hid (Ha.out.up hb)
  replace Hb := Lib.hid (Hb.out.up hb)
  replace HW := Lib.hid (bel_step HW.out hb)
  clear hb
  obtain ⟨a0, a1, a2, a3⟩ := Ha.out.cells
  have lta := Ha.out.lt
  obtain ⟨b0, b1, b2, b3⟩ := Hb.out.cells
  have ltb := Hb.out.lt
  go_wp2_with fail
  refine (great16_c a An Aa an aa _).mono ?_
  rintro e w2 ⟨rfl, hb⟩
  replace Ha := Lib.hid (Ha.out.up hb)
  replace Hb := Lib.hid (Hb.out.up hb)
  replace HW := Lib.hid (bel_step HW.out hb)
  clear a0 a1 a2 a3 lta
  clear b0 b1 b2 b3 ltb
  clear hb
  obtain ⟨a0, a1, a2, a3⟩ := Ha.out.cells
  have lta := Ha.out.lt
  obtain ⟨b0, b1, b2, b3⟩ := Hb.out.cells
  have ltb := Hb.out.lt
  rw [GA.out]
  go_wp2_with fail
  refine (great16_c b Bn Ba bn ba _).mono ?_
  rintro e w3 ⟨rfl, hb⟩
  replace Ha := Lib.hid (Ha.out.up hb)
  replace Hb := Lib.hid (Hb.out.up hb)
  replace HW := Lib.hid (bel_step HW.out hb)
  clear a0 a1 a2 a3 lta
  clear b0 b1 b2 b3 ltb
  clear hb
  obtain ⟨a0, a1, a2, a3⟩ := Ha.out.cells
  have lta := Ha.out.lt
  obtain ⟨b0, b1, b2, b3⟩ := Hb.out.cells
  have ltb := Hb.out.lt
  rw [GB.out]
  go_wp2_with fail
  refine (right_c Ha.out.din an aa).mono ?_
  rintro e w4 ⟨rfl, hb⟩
  replace Ha := Lib.hid (Ha.out.up hb)
  replace Hb := Lib.hid (Hb.out.up hb)
  replace HW := Lib.hid (bel_step HW.out hb)
  clear a0 a1 a2 a3 lta
  clear b0 b1 b2 b3 ltb
  clear hb
  obtain ⟨a0, a1, a2, a3⟩ := Ha.out.cells
  have lta := Ha.out.lt
  obtain ⟨b0, b1, b2, b3⟩ := Hb.out.cells
  have ltb := Hb.out.lt
  rw [RA.out]
  go_wp2_with fail
  refine (right_c Hb.out.din bn ba).mono ?_
  rintro e w5 ⟨rfl, hb⟩
  replace Ha := Lib.hid (Ha.out.up hb)
  replace Hb := Lib.hid (Hb.out.up hb)
  replace HW := Lib.hid (bel_step HW.out hb)
  clear a0 a1 a2 a3 lta
  clear b0 b1 b2 b3 ltb
  clear hb
  obtain ⟨a0, a1, a2, a3⟩ := Ha.out.cells
  have lta := Ha.out.lt
  obtain ⟨b0, b1, b2, b3⟩ := Hb.out.cells
  have ltb := Hb.out.lt
  rw [RB.out]
  go_wp2_with fail
  go_ret
  exact ⟨rfl, HW.out⟩
set_option maxHeartbeats 4000000 in
set_option maxRecDepth 100000 in
theorem tightSums_k4 (a b : D) (n : Int) (An Aa Bn Ba : Option Addr) (an aa bn ba : Nat) (w : World) (ha : DIn w a An Aa) (hb : DIn w b Bn Ba) (ga : a.great = false) (gb : b.great = false) (ra : a.right = true) (rb : b.right = true) (hK : a.K = b.K) (h4 : 4 < a.K) :
    Calls Try.prog 16 #[dfaV a.K a.S An a.N.length an Aa a.A.length aa, dfaV b.K b.S Bn b.N.length bn Ba b.A.length ba, .int .u8 n] w (Ret (.bool true) w) := by
  have GA := Lib.hid ga; clear ga
  have GB := Lib.hid gb; clear gb
  have RA := Lib.hid ra; clear ra
  have RB := Lib.hid rb; clear rb
  have hKf : (a.K != b.K) = false := by rw [hK]; simp
  clear hK
  have Ha := Lib.hid ((HasD.new ha an aa).alloc (.cells #[.int .i64 b.K, .int .i64 b.S, .slice Bn b.N.length bn, .slice Ba b.A.length ba] 25))
  have Hb : Hid (HasD ((w.alloc (.cells #[.int .i64 a.K, .int .i64 a.S, .slice An a.N.length an, .slice Aa a.A.length aa] 25)).alloc (.cells #[.int .i64 b.K, .int .i64 b.S, .slice Bn b.N.length bn, .slice Ba b.A.length ba] 25)) (w.heap.size + 1) b Bn bn Ba ba) := HasD.newAt (hb.alloc _) bn ba (by simp)
  have HW := Lib.hid (bel_alloc (bel_new w (.cells #[.int .i64 a.K, .int .i64 a.S, .slice An a.N.length an, .slice Aa a.A.length aa] 25)) (.cells #[.int .i64 b.K, .int .i64 b.S, .slice Bn b.N.length bn, .slice Ba b.A.length ba] 25))
  clear ha hb
  go_enter Try.func16, Try.ntmps16
  go_wp2_with fail
  refine (tightAlive_any _).mono ?_
  rintro e w1 ⟨rfl, hb⟩
  replace Ha := Lib.hid (Ha.out.up hb)
  replace Hb := Lib.hid (Hb.out.up hb)
  replace HW := Lib.hid (bel_step HW.out hb)
  clear hb
  obtain ⟨a0, a1, a2, a3⟩ := Ha.out.cells
  have lta := Ha.out.lt
  obtain ⟨b0, b1, b2, b3⟩ := Hb.out.cells
  have ltb := Hb.out.lt
  go_wp2_with fail
  refine (great16_c a An Aa an aa _).mono ?_
  rintro e w2 ⟨rfl, hb⟩
  replace Ha := Lib.hid (Ha.out.up hb)
  replace Hb := Lib.hid (Hb.out.up hb)
  replace HW := Lib.hid (bel_step HW.out hb)
  clear a0 a1 a2 a3 lta
  clear b0 b1 b2 b3 ltb
  clear hb
  obtain ⟨a0, a1, a2, a3⟩ := Ha.out.cells
  have lta := Ha.out.lt
  obtain ⟨b0, b1, b2, b3⟩ := Hb.out.cells
  have ltb := Hb.out.lt
  rw [GA.out]
  go_wp2_with fail
  refine (great16_c b Bn Ba bn ba _).mono ?_
  rintro e w3 ⟨rfl, hb⟩
  replace Ha := Lib.hid (Ha.out.up hb)
  replace Hb := Lib.hid (Hb.out.up hb)
  replace HW := Lib.hid (bel_step HW.out hb)
  clear a0 a1 a2 a3 lta
  clear b0 b1 b2 b3 ltb
  clear hb
  obtain ⟨a0, a1, a2, a3⟩ := Ha.out.cells
  have lta := Ha.out.lt
  obtain ⟨b0, b1, b2, b3⟩ := Hb.out.cells
  have ltb := Hb.out.lt
  rw [GB.out]
  go_wp2_with fail
  refine (right_c Ha.out.din an aa).mono ?_
  rintro e w4 ⟨rfl, hb⟩
  replace Ha := Lib.hid (Ha.out.up hb)
  replace Hb := Lib.hid (Hb.out.up hb)
  replace HW := Lib.hid (bel_step HW.out hb)
  clear a0 a1 a2 a3 lta
  clear b0 b1 b2 b3 ltb
  clear hb
  obtain ⟨a0, a1, a2, a3⟩ := Ha.out.cells
  have lta := Ha.out.lt
  obtain ⟨b0, b1, b2, b3⟩ := Hb.out.cells
  have ltb := Hb.out.lt
  rw [RA.out]
  go_wp2_with fail
  refine (right_c Hb.out.din bn ba).mono ?_
  rintro e w5 ⟨rfl, hb⟩
  replace Ha := Lib.hid (Ha.out.up hb)
  replace Hb := Lib.hid (Hb.out.up hb)
  replace HW := Lib.hid (bel_step HW.out hb)
  clear a0 a1 a2 a3 lta
  clear b0 b1 b2 b3 ltb
  clear hb
  obtain ⟨a0, a1, a2, a3⟩ := Ha.out.cells
  have lta := Ha.out.lt
  obtain ⟨b0, b1, b2, b3⟩ := Hb.out.cells
  have ltb := Hb.out.lt
  rw [RB.out]
  go_wp2_with fail
  go_ret
  exact ⟨rfl, HW.out⟩
set_option maxHeartbeats 4000000 in
set_option maxRecDepth 100000 in
theorem tightSums_main (a b : D) (n : Int) (An Aa Bn Ba : Option Addr) (an aa bn ba : Nat) (w : World) (ha : DIn w a An Aa) (hb : DIn w b Bn Ba) (hn : 0 ≤ n ∧ n < 256) (ga : a.great = false) (gb : b.great = false) (ra : a.right = true) (rb : b.right = true) (hK : a.K = b.K) (h4 : a.K ≤ 4) :
    Calls Try.prog 16 #[dfaV a.K a.S An a.N.length an Aa a.A.length aa, dfaV b.K b.S Bn b.N.length bn Ba b.A.length ba, .int .u8 n] w (Ret (.bool true) w) := by
  obtain ⟨s1, s2, _⟩ := D.great_no ga
  obtain ⟨t1, t2, _⟩ := D.great_no gb
  have oka := D.right_true.1 ra
  have okb := D.right_true.1 rb
  have hsz : a.A.length * b.A.length ≤ 65536 := Nat.le_trans (Nat.mul_le_mul s1 t1) (by omega)
  have hpo := prodOk_yes oka okb hK
  have HSZ := Lib.hid hsz; have HPO := Lib.hid hpo; have OKA := Lib.hid oka; have OKB := Lib.hid okb; have HKE := Lib.hid hK
  have C39 := Lib.hid (fun (W : World) (h1 : DIn W a An Aa) (h2 : DIn W b Bn Ba) => (both_c h1 h2 an aa bn ba (.inl hsz)).mono (R' := fun e w' => ∃ d, (∃ L, ProdOf (fun x y => x && y) a b d L) ∧ Gives W d 0 e w') (fun e w' ⟨d1, er, hq, hg⟩ => by obtain ⟨rfl, L, hL⟩ := hq.1 hpo; exact ⟨d1, ⟨L, hL⟩, hg⟩))
  have C41 := Lib.hid (fun (W : World) (h1 : DIn W a An Aa) (h2 : DIn W b Bn Ba) => (less_c h1 h2 an aa bn ba (.inl hsz)).mono (R' := fun e w' => ∃ d, (∃ L, ProdOf (fun x y => x && !y) a b d L) ∧ Gives W d 0 e w') (fun e w' ⟨d1, er, hq, hg⟩ => by obtain ⟨rfl, L, hL⟩ := hq.1 hpo; exact ⟨d1, ⟨L, hL⟩, hg⟩))
  have C40 := Lib.hid (fun (W : World) (h1 : DIn W a An Aa) (h2 : DIn W b Bn Ba) => (either_c h1 h2 an aa bn ba (.inl hsz)).mono (R' := fun e w' => ∃ d, (∃ L, ProdOf (fun x y => x || y) a b d L) ∧ Gives W d 0 e w') (fun e w' ⟨d1, er, hq, hg⟩ => by obtain ⟨rfl, L, hL⟩ := hq.1 hpo; exact ⟨d1, ⟨L, hL⟩, hg⟩))
  have hKf : (a.K != b.K) = false := by rw [hK]; simp
  have h4 : a.K ≤ 4 := h4
  clear hsz hpo oka okb hK s1 s2 t1 t2
  have GA := Lib.hid ga; clear ga
  have GB := Lib.hid gb; clear gb
  have RA := Lib.hid ra; clear ra
  have RB := Lib.hid rb; clear rb
  have Ha := Lib.hid ((HasD.new ha an aa).alloc (.cells #[.int .i64 b.K, .int .i64 b.S, .slice Bn b.N.length bn, .slice Ba b.A.length ba] 25))
  have Hb : Hid (HasD ((w.alloc (.cells #[.int .i64 a.K, .int .i64 a.S, .slice An a.N.length an, .slice Aa a.A.length aa] 25)).alloc (.cells #[.int .i64 b.K, .int .i64 b.S, .slice Bn b.N.length bn, .slice Ba b.A.length ba] 25)) (w.heap.size + 1) b Bn bn Ba ba) := HasD.newAt (hb.alloc _) bn ba (by simp)
  have HW := Lib.hid (bel_alloc (bel_new w (.cells #[.int .i64 a.K, .int .i64 a.S, .slice An a.N.length an, .slice Aa a.A.length aa] 25)) (.cells #[.int .i64 b.K, .int .i64 b.S, .slice Bn b.N.length bn, .slice Ba b.A.length ba] 25))
  clear ha hb
  go_enter Try.func16, Try.ntmps16
  go_wp2_with fail
  refine (tightAlive_any _).mono ?_
  rintro e w1 ⟨rfl, hb⟩
  replace Ha := Lib.hid (Ha.out.up hb)
  replace Hb := Lib.hid (Hb.out.up hb)
  replace HW := Lib.hid (bel_step HW.out hb)
  clear hb
  obtain ⟨a0, a1, a2, a3⟩ := Ha.out.cells
  have lta := Ha.out.lt
  obtain ⟨b0, b1, b2, b3⟩ := Hb.out.cells
  have ltb := Hb.out.lt
  go_wp2_with fail
  refine (great16_c a An Aa an aa _).mono ?_
  rintro e w2 ⟨rfl, hb⟩
  replace Ha := Lib.hid (Ha.out.up hb)
  replace Hb := Lib.hid (Hb.out.up hb)
  replace HW := Lib.hid (bel_step HW.out hb)
  clear a0 a1 a2 a3 lta
  clear b0 b1 b2 b3 ltb
  clear hb
  obtain ⟨a0, a1, a2, a3⟩ := Ha.out.cells
  have lta := Ha.out.lt
  obtain ⟨b0, b1, b2, b3⟩ := Hb.out.cells
  have ltb := Hb.out.lt
  rw [GA.out]
  go_wp2_with fail
  refine (great16_c b Bn Ba bn ba _).mono ?_
  rintro e w3 ⟨rfl, hb⟩
  replace Ha := Lib.hid (Ha.out.up hb)
  replace Hb := Lib.hid (Hb.out.up hb)
  replace HW := Lib.hid (bel_step HW.out hb)
  clear a0 a1 a2 a3 lta
  clear b0 b1 b2 b3 ltb
  clear hb
  obtain ⟨a0, a1, a2, a3⟩ := Ha.out.cells
  have lta := Ha.out.lt
  obtain ⟨b0, b1, b2, b3⟩ := Hb.out.cells
  have ltb := Hb.out.lt
  rw [GB.out]
  go_wp2_with fail
  refine (right_c Ha.out.din an aa).mono ?_
  rintro e w4 ⟨rfl, hb⟩
  replace Ha := Lib.hid (Ha.out.up hb)
  replace Hb := Lib.hid (Hb.out.up hb)
  replace HW := Lib.hid (bel_step HW.out hb)
  clear a0 a1 a2 a3 lta
  clear b0 b1 b2 b3 ltb
  clear hb
  obtain ⟨a0, a1, a2, a3⟩ := Ha.out.cells
  have lta := Ha.out.lt
  obtain ⟨b0, b1, b2, b3⟩ := Hb.out.cells
  have ltb := Hb.out.lt
  rw [RA.out]
  go_wp2_with fail
  refine (right_c Hb.out.din bn ba).mono ?_
  rintro e w5 ⟨rfl, hb⟩
  replace Ha := Lib.hid (Ha.out.up hb)
  replace Hb := Lib.hid (Hb.out.up hb)
  replace HW := Lib.hid (bel_step HW.out hb)
  clear a0 a1 a2 a3 lta
  clear b0 b1 b2 b3 ltb
  clear hb
  obtain ⟨a0, a1, a2, a3⟩ := Ha.out.cells
  have lta := Ha.out.lt
  obtain ⟨b0, b1, b2, b3⟩ := Hb.out.cells
  have ltb := Hb.out.lt
  rw [RB.out]
  obtain ⟨kk, hkk, hk20⟩ : ∃ kk : Nat, n.tmod 20 = (kk : Int) ∧ kk < 20 := ⟨(n.tmod 20).toNat, by rw [Int.toNat_of_nonneg (Int.tmod_nonneg 20 hn.1)], by have h1 := Int.tmod_nonneg 20 hn.1; have h2 := Int.tmod_lt_of_pos n (show (0 : Int) < 20 by omega); omega⟩
  obtain ⟨hn0, hn1⟩ := hn
  go_wp2_with fail
  refine (C39.out _ Ha.out.din Hb.out.din).mono ?_
  rintro e w6 ⟨p, hpp, v, rfl, hx, hb⟩
  replace Ha := Lib.hid (Ha.out.up hb)
  replace Hb := Lib.hid (Hb.out.up hb)
  replace HW := Lib.hid (bel_step HW.out hb)
  clear a0 a1 a2 a3 lta
  clear b0 b1 b2 b3 ltb
  clear hb
  have OKp : Hid p.Ok := by obtain ⟨L, hL⟩ := hpp; exact (prod_ok hL OKA.out OKB.out HKE.out HSZ.out).1
  have HKp : Hid (p.K ≤ 4) := by obtain ⟨L, hL⟩ := hpp; show _ ≤ _; rw [(prod_ok hL OKA.out OKB.out HKE.out HSZ.out).2.2]; exact h4
  have HPp := Lib.hid hpp
  obtain ⟨Pn, Pm, Pa, Pb, rfl, dx⟩ := hx.din (D.Ok.sizes OKp.out)
  clear hx hpp
  obtain ⟨a0, a1, a2, a3⟩ := Ha.out.cells
  have lta := Ha.out.lt
  obtain ⟨b0, b1, b2, b3⟩ := Hb.out.cells
  have ltb := Hb.out.lt
  have Hp := Lib.hid (HasD.new dx Pm Pb)
  replace Ha := Lib.hid (Ha.out.alloc (.cells #[.int .i64 p.K, .int .i64 p.S, .slice Pn p.N.length Pm, .slice Pa p.A.length Pb] 25))
  replace Hb := Lib.hid (Hb.out.alloc (.cells #[.int .i64 p.K, .int .i64 p.S, .slice Pn p.N.length Pm, .slice Pa p.A.length Pb] 25))
  replace HW := Lib.hid (bel_alloc HW.out (.cells #[.int .i64 p.K, .int .i64 p.S, .slice Pn p.N.length Pm, .slice Pa p.A.length Pb] 25))
  clear dx
  go_wp2_with fail
  refine (C41.out _ Ha.out.din Hb.out.din).mono ?_
  rintro e w7 ⟨q, hpq, v, rfl, hx, hb⟩
  replace Ha := Lib.hid (Ha.out.up hb)
  replace Hb := Lib.hid (Hb.out.up hb)
  replace Hp := Lib.hid (Hp.out.up hb)
  replace HW := Lib.hid (bel_step HW.out hb)
  clear a0 a1 a2 a3 lta
  clear b0 b1 b2 b3 ltb
  clear hb
  have OKq : Hid q.Ok := by obtain ⟨L, hL⟩ := hpq; exact (prod_ok hL OKA.out OKB.out HKE.out HSZ.out).1
  have HKq : Hid (q.K ≤ 4) := by obtain ⟨L, hL⟩ := hpq; show _ ≤ _; rw [(prod_ok hL OKA.out OKB.out HKE.out HSZ.out).2.2]; exact h4
  have HPq := Lib.hid hpq
  obtain ⟨Qn, Qm, Qa, Qb, rfl, dx⟩ := hx.din (D.Ok.sizes OKq.out)
  clear hx hpq
  obtain ⟨a0, a1, a2, a3⟩ := Ha.out.cells
  have lta := Ha.out.lt
  obtain ⟨b0, b1, b2, b3⟩ := Hb.out.cells
  have ltb := Hb.out.lt
  obtain ⟨p0, p1, p2, p3⟩ := Hp.out.cells
  have ltp := Hp.out.lt
  have Hq := Lib.hid (HasD.new dx Qm Qb)
  replace Ha := Lib.hid (Ha.out.alloc (.cells #[.int .i64 q.K, .int .i64 q.S, .slice Qn q.N.length Qm, .slice Qa q.A.length Qb] 25))
  replace Hb := Lib.hid (Hb.out.alloc (.cells #[.int .i64 q.K, .int .i64 q.S, .slice Qn q.N.length Qm, .slice Qa q.A.length Qb] 25))
  replace Hp := Lib.hid (Hp.out.alloc (.cells #[.int .i64 q.K, .int .i64 q.S, .slice Qn q.N.length Qm, .slice Qa q.A.length Qb] 25))
  replace HW := Lib.hid (bel_alloc HW.out (.cells #[.int .i64 q.K, .int .i64 q.S, .slice Qn q.N.length Qm, .slice Qa q.A.length Qb] 25))
  clear dx
  go_wp2_with fail
  refine (C40.out _ Ha.out.din Hb.out.din).mono ?_
  rintro e w8 ⟨r, hpr, v, rfl, hx, hb⟩
  replace Ha := Lib.hid (Ha.out.up hb)
  replace Hb := Lib.hid (Hb.out.up hb)
  replace Hp := Lib.hid (Hp.out.up hb)
  replace Hq := Lib.hid (Hq.out.up hb)
  replace HW := Lib.hid (bel_step HW.out hb)
  clear a0 a1 a2 a3 lta
  clear b0 b1 b2 b3 ltb
  clear p0 p1 p2 p3 ltp
  clear hb
  have OKr : Hid r.Ok := by obtain ⟨L, hL⟩ := hpr; exact (prod_ok hL OKA.out OKB.out HKE.out HSZ.out).1
  have HKr : Hid (r.K ≤ 4) := by obtain ⟨L, hL⟩ := hpr; show _ ≤ _; rw [(prod_ok hL OKA.out OKB.out HKE.out HSZ.out).2.2]; exact h4
  have HPr := Lib.hid hpr
  obtain ⟨Rn, Rm, Ra, Rb, rfl, dx⟩ := hx.din (D.Ok.sizes OKr.out)
  clear hx hpr
  obtain ⟨a0, a1, a2, a3⟩ := Ha.out.cells
  have lta := Ha.out.lt
  obtain ⟨b0, b1, b2, b3⟩ := Hb.out.cells
  have ltb := Hb.out.lt
  obtain ⟨p0, p1, p2, p3⟩ := Hp.out.cells
  have ltp := Hp.out.lt
  obtain ⟨q0, q1, q2, q3⟩ := Hq.out.cells
  have ltq := Hq.out.lt
  have Hr := Lib.hid (HasD.new dx Rm Rb)
  replace Ha := Lib.hid (Ha.out.alloc (.cells #[.int .i64 r.K, .int .i64 r.S, .slice Rn r.N.length Rm, .slice Ra r.A.length Rb] 25))
  replace Hb := Lib.hid (Hb.out.alloc (.cells #[.int .i64 r.K, .int .i64 r.S, .slice Rn r.N.length Rm, .slice Ra r.A.length Rb] 25))
  replace Hp := Lib.hid (Hp.out.alloc (.cells #[.int .i64 r.K, .int .i64 r.S, .slice Rn r.N.length Rm, .slice Ra r.A.length Rb] 25))
  replace Hq := Lib.hid (Hq.out.alloc (.cells #[.int .i64 r.K, .int .i64 r.S, .slice Rn r.N.length Rm, .slice Ra r.A.length Rb] 25))
  replace HW := Lib.hid (bel_alloc HW.out (.cells #[.int .i64 r.K, .int .i64 r.S, .slice Rn r.N.length Rm, .slice Ra r.A.length Rb] 25))
  clear dx
  obtain ⟨Lp, hLp⟩ := HPp.out
  obtain ⟨Lq, hLq⟩ := HPq.out
  obtain ⟨Lr, hLr⟩ := HPr.out
  have hsum := sums_plain hLp hLq hLr HKE.out kk
  have C6p := fun (W : World) (h : DIn W p Pn Pa) => count_yes p ((kk : Nat) : Int) Pn Pa Pm Pb W h OKp.out (by omega) (by omega)
  simp only [Int.toNat_natCast] at C6p
  have hsmp := cnt_small HKp.out hk20 p.S
  rw [sat_small (Nat.le_trans hsmp (by decide))] at C6p
  have C6q := fun (W : World) (h : DIn W q Qn Qa) => count_yes q ((kk : Nat) : Int) Qn Qa Qm Qb W h OKq.out (by omega) (by omega)
  simp only [Int.toNat_natCast] at C6q
  have hsmq := cnt_small HKq.out hk20 q.S
  rw [sat_small (Nat.le_trans hsmq (by decide))] at C6q
  have C6r := fun (W : World) (h : DIn W r Rn Ra) => count_yes r ((kk : Nat) : Int) Rn Ra Rm Rb W h OKr.out (by omega) (by omega)
  simp only [Int.toNat_natCast] at C6r
  have hsmr := cnt_small HKr.out hk20 r.S
  rw [sat_small (Nat.le_trans hsmr (by decide))] at C6r
  have C6a := fun (W : World) (h : DIn W a An Aa) => count_yes a ((kk : Nat) : Int) An Aa an aa W h OKA.out (by omega) (by omega)
  simp only [Int.toNat_natCast] at C6a
  have hsma := cnt_small h4 hk20 a.S
  rw [sat_small (Nat.le_trans hsma (by decide))] at C6a
  have C6b := fun (W : World) (h : DIn W b Bn Ba) => count_yes b ((kk : Nat) : Int) Bn Ba bn ba W h OKB.out (by omega) (by omega)
  simp only [Int.toNat_natCast] at C6b
  have hsmb := cnt_small (by rw [← HKE.out]; exact h4) hk20 b.S
  rw [sat_small (Nat.le_trans hsmb (by decide))] at C6b
  obtain ⟨np, hnp⟩ : ∃ m, m = cntN p kk p.S := ⟨_, rfl⟩
  rw [← hnp] at C6p hsmp hsum
  replace C6p := Lib.hid C6p
  clear hnp
  obtain ⟨nq, hnq⟩ : ∃ m, m = cntN q kk q.S := ⟨_, rfl⟩
  rw [← hnq] at C6q hsmq hsum
  replace C6q := Lib.hid C6q
  clear hnq
  obtain ⟨nr, hnr⟩ : ∃ m, m = cntN r kk r.S := ⟨_, rfl⟩
  rw [← hnr] at C6r hsmr hsum
  replace C6r := Lib.hid C6r
  clear hnr
  obtain ⟨na, hna⟩ : ∃ m, m = cntN a kk a.S := ⟨_, rfl⟩
  rw [← hna] at C6a hsma hsum
  replace C6a := Lib.hid C6a
  clear hna
  obtain ⟨nb, hnb⟩ : ∃ m, m = cntN b kk b.S := ⟨_, rfl⟩
  rw [← hnb] at C6b hsmb hsum
  replace C6b := Lib.hid C6b
  clear hnb
  obtain ⟨e1, e2⟩ := hsum
  have v1 : IntKind.u64.wrap ((np : Int) + (nq : Int)) = (na : Int) := by rw [IntKind.wrap_u64]; omega
  have v2 : IntKind.u64.wrap ((nr : Int) + (np : Int)) = IntKind.u64.wrap ((na : Int) + (nb : Int)) := by congr 1; omega
  clear e1 e2 hLp hLq hLr hkk
  go_wp2_with fail
  refine (C6p.out _ Hp.out.din).mono ?_
  rintro e w9 ⟨rfl, hb⟩
  replace Ha := Lib.hid (Ha.out.up hb)
  replace Hb := Lib.hid (Hb.out.up hb)
  replace Hp := Lib.hid (Hp.out.up hb)
  replace Hq := Lib.hid (Hq.out.up hb)
  replace Hr := Lib.hid (Hr.out.up hb)
  replace HW := Lib.hid (bel_step HW.out hb)
  clear a0 a1 a2 a3 lta
  clear b0 b1 b2 b3 ltb
  clear p0 p1 p2 p3 ltp
  clear q0 q1 q2 q3 ltq
  clear hb
  obtain ⟨a0, a1, a2, a3⟩ := Ha.out.cells
  have lta := Ha.out.lt
  obtain ⟨b0, b1, b2, b3⟩ := Hb.out.cells
  have ltb := Hb.out.lt
  obtain ⟨p0, p1, p2, p3⟩ := Hp.out.cells
  have ltp := Hp.out.lt
  obtain ⟨q0, q1, q2, q3⟩ := Hq.out.cells
  have ltq := Hq.out.lt
  obtain ⟨r0, r1, r2, r3⟩ := Hr.out.cells
  have ltr := Hr.out.lt
  go_wp2_with fail
  refine (C6q.out _ Hq.out.din).mono ?_
  rintro e w10 ⟨rfl, hb⟩
  replace Ha := Lib.hid (Ha.out.up hb)
  replace Hb := Lib.hid (Hb.out.up hb)
  replace Hp := Lib.hid (Hp.out.up hb)
  replace Hq := Lib.hid (Hq.out.up hb)
  replace Hr := Lib.hid (Hr.out.up hb)
  replace HW := Lib.hid (bel_step HW.out hb)
  clear a0 a1 a2 a3 lta
  clear b0 b1 b2 b3 ltb
  clear p0 p1 p2 p3 ltp
  clear q0 q1 q2 q3 ltq
  clear r0 r1 r2 r3 ltr
  clear hb
  obtain ⟨a0, a1, a2, a3⟩ := Ha.out.cells
  have lta := Ha.out.lt
  obtain ⟨b0, b1, b2, b3⟩ := Hb.out.cells
  have ltb := Hb.out.lt
  obtain ⟨p0, p1, p2, p3⟩ := Hp.out.cells
  have ltp := Hp.out.lt
  obtain ⟨q0, q1, q2, q3⟩ := Hq.out.cells
  have ltq := Hq.out.lt
  obtain ⟨r0, r1, r2, r3⟩ := Hr.out.cells
  have ltr := Hr.out.lt
  go_wp2_with fail
  refine (C6r.out _ Hr.out.din).mono ?_
  rintro e w11 ⟨rfl, hb⟩
  replace Ha := Lib.hid (Ha.out.up hb)
  replace Hb := Lib.hid (Hb.out.up hb)
  replace Hp := Lib.hid (Hp.out.up hb)
  replace Hq := Lib.hid (Hq.out.up hb)
  replace Hr := Lib.hid (Hr.out.up hb)
  replace HW := Lib.hid (bel_step HW.out hb)
  clear a0 a1 a2 a3 lta
  clear b0 b1 b2 b3 ltb
  clear p0 p1 p2 p3 ltp
  clear q0 q1 q2 q3 ltq
  clear r0 r1 r2 r3 ltr
  clear hb
  obtain ⟨a0, a1, a2, a3⟩ := Ha.out.cells
  have lta := Ha.out.lt
  obtain ⟨b0, b1, b2, b3⟩ := Hb.out.cells
  have ltb := Hb.out.lt
  obtain ⟨p0, p1, p2, p3⟩ := Hp.out.cells
  have ltp := Hp.out.lt
  obtain ⟨q0, q1, q2, q3⟩ := Hq.out.cells
  have ltq := Hq.out.lt
  obtain ⟨r0, r1, r2, r3⟩ := Hr.out.cells
  have ltr := Hr.out.lt
  go_wp2_with fail
  refine (C6a.out _ Ha.out.din).mono ?_
  rintro e w12 ⟨rfl, hb⟩
  replace Ha := Lib.hid (Ha.out.up hb)
  replace Hb := Lib.hid (Hb.out.up hb)
  replace Hp := Lib.hid (Hp.out.up hb)
  replace Hq := Lib.hid (Hq.out.up hb)
  replace Hr := Lib.hid (Hr.out.up hb)
  replace HW := Lib.hid (bel_step HW.out hb)
  clear a0 a1 a2 a3 lta
  clear b0 b1 b2 b3 ltb
  clear p0 p1 p2 p3 ltp
  clear q0 q1 q2 q3 ltq
  clear r0 r1 r2 r3 ltr
  clear hb
  obtain ⟨a0, a1, a2, a3⟩ := Ha.out.cells
  have lta := Ha.out.lt
  obtain ⟨b0, b1, b2, b3⟩ := Hb.out.cells
  have ltb := Hb.out.lt
  obtain ⟨p0, p1, p2, p3⟩ := Hp.out.cells
  have ltp := Hp.out.lt
  obtain ⟨q0, q1, q2, q3⟩ := Hq.out.cells
  have ltq := Hq.out.lt
  obtain ⟨r0, r1, r2, r3⟩ := Hr.out.cells
  have ltr := Hr.out.lt
  go_wp2_with fail
  refine (C6b.out _ Hb.out.din).mono ?_
  rintro e w13 ⟨rfl, hb⟩
  replace Ha := Lib.hid (Ha.out.up hb)
  replace Hb := Lib.hid (Hb.out.up hb)
  replace Hp := Lib.hid (Hp.out.up hb)
  replace Hq := Lib.hid (Hq.out.up hb)
  replace Hr := Lib.hid (Hr.out.up hb)
  replace HW := Lib.hid (bel_step HW.out hb)
  clear a0 a1 a2 a3 lta
  clear b0 b1 b2 b3 ltb
  clear p0 p1 p2 p3 ltp
  clear q0 q1 q2 q3 ltq
  clear r0 r1 r2 r3 ltr
  clear hb
  obtain ⟨a0, a1, a2, a3⟩ := Ha.out.cells
  have lta := Ha.out.lt
  obtain ⟨b0, b1, b2, b3⟩ := Hb.out.cells
  have ltb := Hb.out.lt
  obtain ⟨p0, p1, p2, p3⟩ := Hp.out.cells
  have ltp := Hp.out.lt
  obtain ⟨q0, q1, q2, q3⟩ := Hq.out.cells
  have ltq := Hq.out.lt
  obtain ⟨r0, r1, r2, r3⟩ := Hr.out.cells
  have ltr := Hr.out.lt
  go_wp2_with fail
  go_ret
  exact ⟨ret_bool (by simp [v1, v2]), HW.out⟩
theorem tightSums_law (a b : D) (n : Int) (An Aa Bn Ba : Option Addr) (an aa bn ba : Nat) (w : World) (ha : DIn w a An Aa) (hb : DIn w b Bn Ba) (hn : 0 ≤ n ∧ n < 256) :
    Calls Try.prog 16 #[dfaV a.K a.S An a.N.length an Aa a.A.length aa, dfaV b.K b.S Bn b.N.length bn Ba b.A.length ba, .int .u8 n] w (Ret (.bool true) w) := by
  rcases ga : a.great with _ | _
  · rcases gb : b.great with _ | _
    · rcases ra : a.right with _ | _
      · exact tightSums_ra a b n An Aa Bn Ba an aa bn ba w ha hb ga gb ra
      · rcases rb : b.right with _ | _
        · exact tightSums_rb a b n An Aa Bn Ba an aa bn ba w ha hb ga gb ra rb
        · by_cases hK : a.K = b.K
          · by_cases h4 : 4 < a.K
            · exact tightSums_k4 a b n An Aa Bn Ba an aa bn ba w ha hb ga gb ra rb hK h4
            · exact tightSums_main a b n An Aa Bn Ba an aa bn ba w ha hb hn ga gb ra rb hK (by omega)
          · exact tightSums_k a b n An Aa Bn Ba an aa bn ba w ha hb ga gb ra rb (bne_iff_ne.2 hK)
    · exact tightSums_gb a b n An Aa Bn Ba an aa bn ba w ha hb ga gb
  · exact tightSums_ga a b n An Aa Bn Ba an aa bn ba w ha hb ga
end Go.Proofs.Ytmpcoclgcldclaa
