/- The walk of the law TightOrders. -/
import Derived.Test.YtmpcoclgcldclaaTD
import Derived.Test.YtmpcoclgcldclaaVB
namespace Go.Proofs.Ytmpcoclgcldclaa
open Go.RowKit
attribute [local go_sem ↓] Go.wp_at_zero Go.wp_at_succ

set_option maxHeartbeats 8000000 in
set_option maxRecDepth 100000 in
theorem tightOrders_ga (a b : D) (An Aa Bn Ba : Option Addr) (an aa bn ba : Nat) (w : World) (ha : DIn w a An Aa) (hb : DIn w b Bn Ba) (ga : a.great = true) :
    Calls Try.prog 18 #[dfaV a.K a.S An a.N.length an Aa a.A.length aa, dfaV b.K b.S Bn b.N.length bn Ba b.A.length ba] w (Ret (.bool true) w) := by
  have GA := Lib.hid ga; clear ga
  have Ha := Lib.hid ((HasD.new ha an aa).alloc (.cells #[.int .i64 b.K, .int .i64 b.S, .slice Bn b.N.length bn, .slice Ba b.A.length ba] 25))
  have Hb : Hid (HasD ((w.alloc (.cells #[.int .i64 a.K, .int .i64 a.S, .slice An a.N.length an, .slice Aa a.A.length aa] 25)).alloc (.cells #[.int .i64 b.K, .int .i64 b.S, .slice Bn b.N.length bn, .slice Ba b.A.length ba] 25)) (w.heap.size + 1) b Bn bn Ba ba) := HasD.newAt (hb.alloc _) bn ba (by simp)
  have HW := Lib.hid (bel_alloc (bel_new w (.cells #[.int .i64 a.K, .int .i64 a.S, .slice An a.N.length an, .slice Aa a.A.length aa] 25)) (.cells #[.int .i64 b.K, .int .i64 b.S, .slice Bn b.N.length bn, .slice Ba b.A.length ba] 25))
  clear ha hb
  go_enter Try.func18, Try.ntmps18
  go_wp2_with fail
  refine (tightAlive_any _).mono ?_
  rintro e w1 ⟨rfl, hb⟩
  replace Ha := Lib.hid (Ha.out.up hb)
  replace Hb := Lib.hid (Hb.out.up hb)
  replace HW := Lib.hid (bel_step HW.out hb)
  clear hb
  obtain ⟨a0, a1, a2, a3⟩ := Ha.out.cells
  have lta := Ha.out.lt
  obtain ⟨b0, b1, b2, b3⟩ := Hb.out.cells
  have ltb := Hb.out.lt
  go_wp2_with fail
  refine (great16_c a An Aa an aa _).mono ?_
  rintro e w2 ⟨rfl, hb⟩
  replace Ha := Lib.hid (Ha.out.up hb)
  replace Hb := Lib.hid (Hb.out.up hb)
  replace HW := Lib.hid (bel_step HW.out hb)
  clear a0 a1 a2 a3 lta
  clear b0 b1 b2 b3 ltb
  clear hb
  obtain ⟨a0, a1, a2, a3⟩ := Ha.out.cells
  have lta := Ha.out.lt
  obtain ⟨b0, b1, b2, b3⟩ := Hb.out.cells
  have ltb := Hb.out.lt
  rw [GA.out]
  go_wp2_with fail
  go_ret
  exact ⟨rfl, HW.out⟩
set_option maxHeartbeats 8000000 in
set_option maxRecDepth 100000 in
theorem tightOrders_gb (a b : D) (An Aa Bn Ba : Option Addr) (an aa bn ba : Nat) (w : World) (ha : DIn w a An Aa) (hb : DIn w b Bn Ba) (ga : a.great = false) (gb : b.great = true) :
    Calls Try.prog 18 #[dfaV a.K a.S An a.N.length an Aa a.A.length aa, dfaV b.K b.S Bn b.N.length bn Ba b.A.length ba] w (Ret (.bool true) w) := by
  have GA := Lib.hid ga; clear ga
  have GB := Lib.hid gb; clear gb
  have Ha := Lib.hid ((HasD.new ha an aa).alloc (.cells #[.int .i64 b.K, .int .i64 b.S, .slice Bn b.N.length bn, .slice Ba b.A.length ba] 25))
  have Hb : Hid (HasD ((w.alloc (.cells #[.int .i64 a.K, .int .i64 a.S, .slice An a.N.length an, .slice Aa a.A.length aa] 25)).alloc (.cells #[.int .i64 b.K, .int .i64 b.S, .slice Bn b.N.length bn, .slice Ba b.A.length ba] 25)) (w.heap.size + 1) b Bn bn Ba ba) := HasD.newAt (hb.alloc _) bn ba (by simp)
  have HW := Lib.hid (bel_alloc (bel_new w (.cells #[.int .i64 a.K, .int .i64 a.S, .slice An a.N.length an, .slice Aa a.A.length aa] 25)) (.cells #[.int .i64 b.K, .int .i64 b.S, .slice Bn b.N.length bn, .slice Ba b.A.length ba] 25))
  clear ha hb
  go_enter Try.func18, Try.ntmps18
  go_wp2_with fail
  refine (tightAlive_any _).mono ?_
  rintro e w1 ⟨rfl, hb⟩
  replace Ha := Lib.hid (Ha.out.up hb)
  replace Hb := Lib.hid (Hb.out.up hb)
  replace HW := Lib.hid (bel_step HW.out hb)
  clear hb
  obtain ⟨a0, a1, a2, a3⟩ := Ha.out.cells
  have lta := Ha.out.lt
  obtain ⟨b0, b1, b2, b3⟩ := Hb.out.cells
  have ltb := Hb.out.lt
  go_wp2_with fail
  refine (great16_c a An Aa an aa _).mono ?_
  rintro e w2 ⟨rfl, hb⟩
  replace Ha := Lib.hid (Ha.out.up hb)
  replace Hb := Lib.hid (Hb.out.up hb)
  replace HW := Lib.hid (bel_step HW.out hb)
  clear a0 a1 a2 a3 lta
  clear b0 b1 b2 b3 ltb
  clear hb
  obtain ⟨a0, a1, a2, a3⟩ := Ha.out.cells
  have lta := Ha.out.lt
  obtain ⟨b0, b1, b2, b3⟩ := Hb.out.cells
  have ltb := Hb.out.lt
  rw [GA.out]
  go_wp2_with fail
  refine (great16_c b Bn Ba bn ba _).mono ?_
  rintro e w3 ⟨rfl, hb⟩
  replace Ha := Lib.hid (Ha.out.up hb)
  replace Hb := Lib.hid (Hb.out.up hb)
  replace HW := Lib.hid (bel_step HW.out hb)
  clear a0 a1 a2 a3 lta
  clear b0 b1 b2 b3 ltb
  clear hb
  obtain ⟨a0, a1, a2, a3⟩ := Ha.out.cells
  have lta := Ha.out.lt
  obtain ⟨b0, b1, b2, b3⟩ := Hb.out.cells
  have ltb := Hb.out.lt
  rw [GB.out]
  go_wp2_with fail
  go_ret
  exact ⟨rfl, HW.out⟩
set_option maxHeartbeats 8000000 in
set_option maxRecDepth 100000 in
theorem tightOrders_ra (a b : D) (An Aa Bn Ba : Option Addr) (an aa bn ba : Nat) (w : World) (ha : DIn w a An Aa) (hb : DIn w b Bn Ba) (ga : a.great = false) (gb : b.great = false) (ra : a.right = false) :
    Calls Try.prog 18 #[dfaV a.K a.S An a.N.length an Aa a.A.length aa, dfaV b.K b.S Bn b.N.length bn Ba b.A.length ba] w (Ret (.bool true) w) := by
  have GA := Lib.hid ga; clear ga
  have GB := Lib.hid gb; clear gb
  have RA := Lib.hid ra; clear ra
  have Ha := Lib.hid ((HasD.new ha an aa).alloc (.cells #[.int .i64 b.K, .int .i64 b.S, .slice Bn b.N.length bn, .slice Ba b.A.length ba] 25))
  have Hb : Hid (HasD ((w.alloc (.cells #[.int .i64 a.K, .int .i64 a.S, .slice An a.N.length an, .slice Aa a.A.length aa] 25)).alloc (.cells #[.int .i64 b.K, .int .i64 b.S, .slice Bn b.N.length bn, .slice Ba b.A.length ba] 25)) (w.heap.size + 1) b Bn bn Ba ba) := HasD.newAt (hb.alloc _) bn ba (by simp)
  have HW := Lib.hid (bel_alloc (bel_new w (.cells #[.int .i64 a.K, .int .i64 a.S, .slice An a.N.length an, .slice Aa a.A.length aa] 25)) (.cells #[.int .i64 b.K, .int .i64 b.S, .slice Bn b.N.length bn, .slice Ba b.A.length ba] 25))
  clear ha hb
  go_enter Try.func18, Try.ntmps18
  go_wp2_with fail
  refine (tightAlive_any _).mono ?_
  rintro e w1 ⟨rfl, hb⟩
  replace Ha := Lib.hid (Ha.out.up hb)
  replace Hb := Lib.hid (Hb.out.up hb)
  replace HW := Lib.hid (bel_step HW.out hb)
  clear hb
  obtain ⟨a0, a1, a2, a3⟩ := Ha.out.cells
  have lta := Ha.out.lt
  obtain ⟨b0, b1, b2, b3⟩ := Hb.out.cells
  have ltb := Hb.out.lt
  go_wp2_with fail
  refine (great16_c a An Aa an aa _).mono ?_
  rintro e w2 ⟨rfl, hb⟩
  replace Ha := Lib.hid (Ha.out.up hb)
  replace Hb := Lib.hid (Hb.out.up hb)
  replace HW := Lib.hid (bel_step HW.out hb)
  clear a0 a1 a2 a3 lta
  clear b0 b1 b2 b3 ltb
  clear hb
  obtain ⟨a0, a1, a2, a3⟩ := Ha.out.cells
  have lta := Ha.out.lt
  obtain ⟨b0, b1, b2, b3⟩ := Hb.out.cells
  have ltb := Hb.out.lt
  rw [GA.out]
  go_wp2_with fail
  refine (great16_c b Bn Ba bn ba _).mono ?_
  rintro e w3 ⟨rfl, hb⟩
  replace Ha := Lib.hid (Ha.out.up hb)
  replace Hb := Lib.hid (Hb.out.up hb)
  replace HW := Lib.hid (bel_step HW.out hb)
  clear a0 a1 a2 a3 lta
  clear b0 b1 b2 b3 ltb
  clear hb
  obtain ⟨a0, a1, a2, a3⟩ := Ha.out.cells
  have lta := Ha.out.lt
  obtain ⟨b0, b1, b2, b3⟩ := Hb.out.cells
  have ltb := Hb.out.lt
  rw [GB.out]
  go_wp2_with fail
  refine (right_c Ha.out.din an aa).mono ?_
  rintro e w4 ⟨rfl, hb⟩
  replace Ha := Lib.hid (Ha.out.up hb)
  replace Hb := Lib.hid (Hb.out.up hb)
  replace HW := Lib.hid (bel_step HW.out hb)
  clear a0 a1 a2 a3 lta
  clear b0 b1 b2 b3 ltb
  clear hb
  obtain ⟨a0, a1, a2, a3⟩ := Ha.out.cells
  have lta := Ha.out.lt
  obtain ⟨b0, b1, b2, b3⟩ := Hb.out.cells
  have ltb := Hb.out.lt
  rw [RA.out]
  go_wp2_with fail
  go_ret
  exact ⟨rfl, HW.out⟩
set_option maxHeartbeats 8000000 in
set_option maxRecDepth 100000 in
theorem tightOrders_rb (a b : D) (An Aa Bn Ba : Option Addr) (an aa bn ba : Nat) (w : World) (ha : DIn w a An Aa) (hb : DIn w b Bn Ba) (ga : a.great = false) (gb : b.great = false) (ra : a.right = true) (rb : b.right = false) :
    Calls Try.prog 18 #[dfaV a.K a.S An a.N.length an Aa a.A.length aa, dfaV b.K b.S Bn b.N.length bn Ba b.A.length ba] w (Ret (.bool true) w) := by
  have GA := Lib.hid ga; clear ga
  have GB := Lib.hid gb; clear gb
  have RA := Lib.hid ra; clear ra
  have RB := Lib.hid rb; clear rb
  have Ha := Lib.hid ((HasD.new ha an aa).alloc (.cells #[.int .i64 b.K, .int .i64 b.S, .slice Bn b.N.length bn, .slice Ba b.A.length ba] 25))
  have Hb : Hid (HasD ((w.alloc (.cells #[.int .i64 a.K, .int .i64 a.S, .slice An a.N.length an, .slice Aa a.A.length aa] 25)).alloc (.cells #[.int .i64 b.K, .int .i64 b.S, .slice Bn b.N.length bn, .slice Ba b.A.length ba] 25)) (w.heap.size + 1) b Bn bn Ba ba) := HasD.newAt (hb.alloc _) bn ba (by simp)
  have HW := Lib.hid (bel_alloc (bel_new w (.cells #[.int .i64 a.K, .int .i64 a.S, .slice An a.N.length an, .slice Aa a.A.length aa] 25)) (.cells #[.int .i64 b.K, .int .i64 b.S, .slice Bn b.N.length bn, .slice Ba b.A.length ba] 25))
  clear ha hb
  go_enter Try.func18, Try.ntmps18
  go_wp2_with fail
  refine (tightAlive_any _).mono ?_
  rintro e w1 ⟨rfl, hb⟩
  replace Ha := Lib.hid (Ha.out.up hb)
  replace Hb := Lib.hid (Hb.out.up hb)
  replace HW := Lib.hid (bel_step HW.out hb)
  clear hb
  obtain ⟨a0, a1, a2, a3⟩ := Ha.out.cells
  have lta := Ha.out.lt
  obtain ⟨b0, b1, b2, b3⟩ := Hb.out.cells
  have ltb := Hb.out.lt
  go_wp2_with fail
  refine (great16_c a An Aa an aa _).mono ?_
  rintro e w2 ⟨rfl, hb⟩
  replace Ha := Lib.hid (Ha.out.up hb)
  replace Hb := Lib.hid (Hb.out.up hb)
  replace HW := Lib.hid (bel_step HW.out hb)
  clear a0 a1 a2 a3 lta
  clear b0 b1 b2 b3 ltb
  clear hb
  obtain ⟨a0, a1, a2, a3⟩ := Ha.out.cells
  have lta := Ha.out.lt
  obtain ⟨b0, b1, b2, b3⟩ := Hb.out.cells
  have ltb := Hb.out.lt
  rw [GA.out]
  go_wp2_with fail
  refine (great16_c b Bn Ba bn ba _).mono ?_
  rintro e w3 ⟨rfl, hb⟩
  replace Ha := Lib.hid (Ha.out.up hb)
  replace Hb := Lib.hid (Hb.out.up hb)
  replace HW := Lib.hid (bel_step HW.out hb)
  clear a0 a1 a2 a3 lta
  clear b0 b1 b2 b3 ltb
  clear hb
  obtain ⟨a0, a1, a2, a3⟩ := Ha.out.cells
  have lta := Ha.out.lt
  obtain ⟨b0, b1, b2, b3⟩ := Hb.out.cells
  have ltb := Hb.out.lt
  rw [GB.out]
  go_wp2_with fail
  refine (right_c Ha.out.din an aa).mono ?_
  rintro e w4 ⟨rfl, hb⟩
  replace Ha := Lib.hid (Ha.out.up hb)
  replace Hb := Lib.hid (Hb.out.up hb)
  replace HW := Lib.hid (bel_step HW.out hb)
  clear a0 a1 a2 a3 lta
  clear b0 b1 b2 b3 ltb
  clear hb
  obtain ⟨a0, a1, a2, a3⟩ := Ha.out.cells
  have lta := Ha.out.lt
  obtain ⟨b0, b1, b2, b3⟩ := Hb.out.cells
  have ltb := Hb.out.lt
  rw [RA.out]
  go_wp2_with fail
  refine (right_c Hb.out.din bn ba).mono ?_
  rintro e w5 ⟨rfl, hb⟩
  replace Ha := Lib.hid (Ha.out.up hb)
  replace Hb := Lib.hid (Hb.out.up hb)
  replace HW := Lib.hid (bel_step HW.out hb)
  clear a0 a1 a2 a3 lta
  clear b0 b1 b2 b3 ltb
  clear hb
  obtain ⟨a0, a1, a2, a3⟩ := Ha.out.cells
  have lta := Ha.out.lt
  obtain ⟨b0, b1, b2, b3⟩ := Hb.out.cells
  have ltb := Hb.out.lt
  rw [RB.out]
  go_wp2_with fail
  go_ret
  exact ⟨rfl, HW.out⟩
set_option maxHeartbeats 8000000 in
set_option maxRecDepth 100000 in
theorem tightOrders_k (a b : D) (An Aa Bn Ba : Option Addr) (an aa bn ba : Nat) (w : World) (ha : DIn w a An Aa) (hb : DIn w b Bn Ba) (ga : a.great = false) (gb : b.great = false) (ra : a.right = true) (rb : b.right = true) (hK : (a.K != b.K) = true) :
    Calls Try.prog 18 #[dfaV a.K a.S An a.N.length an Aa a.A.length aa, dfaV b.K b.S Bn b.N.length bn Ba b.A.length ba] w (Ret (.bool true) w) := by
  have GA := Lib.hid ga; clear ga
  have GB := Lib.hid gb; clear gb
  have RA := Lib.hid ra; clear ra
  have RB := Lib.hid rb; clear rb
  have Ha := Lib.hid ((HasD.new ha an aa).alloc (.cells #[.int .i64 b.K, .int .i64 b.S, .slice Bn b.N.length bn, .slice Ba b.A.length ba] 25))
  have Hb : Hid (HasD ((w.alloc (.cells #[.int .i64 a.K, .int .i64 a.S, .slice An a.N.length an, .slice Aa a.A.length aa] 25)).alloc (.cells #[.int .i64 b.K, .int .i64 b.S, .slice Bn b.N.length bn, .slice Ba b.A.length ba] 25)) (w.heap.size + 1) b Bn bn Ba ba) := HasD.newAt (hb.alloc _) bn ba (by simp)
  have HW := Lib.hid (bel_alloc (bel_new w (.cells #[.int .i64 a.K, .int .i64 a.S, .slice An a.N.length an, .slice Aa a.A.length aa] 25)) (.cells #[.int .i64 b.K, .int .i64 b.S, .slice Bn b.N.length bn, .slice Ba b.A.length ba] 25))
  clear ha hb
  go_enter Try.func18, Try.ntmps18
  go_wp2_with fail
  refine (tightAlive_any _).mono ?_
  rintro e w1 ⟨rfl, hb⟩
  replace Ha := Lib.hid (Ha.out.up hb)
  replace Hb := Lib.hid (Hb.out.up hb)
  replace HW := Lib.hid (bel_step HW.out hb)
  clear hb
  obtain ⟨a0, a1, a2, a3⟩ := Ha.out.cells
  have lta := Ha.out.lt
  obtain ⟨b0, b1, b2, b3⟩ := Hb.out.cells
  have ltb := Hb.out.lt
  go_wp2_with fail
  refine (great16_c a An Aa an aa _).mono ?_
  rintro e w2 ⟨rfl, hb⟩
  replace Ha := Lib.hid (Ha.out.up hb)
  replace Hb := Lib.hid (Hb.out.up hb)
  replace HW := Lib.hid (bel_step HW.out hb)
  clear a0 a1 a2 a3 lta
  clear b0 b1 b2 b3 ltb
  clear hb
  obtain ⟨a0, a1, a2, a3⟩ := Ha.out.cells
  have lta := Ha.out.lt
  obtain ⟨b0, b1, b2, b3⟩ := Hb.out.cells
  have ltb := Hb.out.lt
  rw [GA.out]
  go_wp2_with fail
  refine (great16_c b Bn Ba bn ba _).mono ?_
  rintro e w3 ⟨rfl, hb⟩
  replace Ha := Lib.hid (Ha.out.up hb)
  replace Hb := Lib.hid (Hb.out.up hb)
  replace HW := Lib.hid (bel_step HW.out hb)
  clear a0 a1 a2 a3 lta
  clear b0 b1 b2 b3 ltb
  clear hb
  obtain ⟨a0, a1, a2, a3⟩ := Ha.out.cells
  have lta := Ha.out.lt
  obtain ⟨b0, b1, b2, b3⟩ := Hb.out.cells
  have ltb := Hb.out.lt
  rw [GB.out]
  go_wp2_with fail
  refine (right_c Ha.out.din an aa).mono ?_
  rintro e w4 ⟨rfl, hb⟩
  replace Ha := Lib.hid (Ha.out.up hb)
  replace Hb := Lib.hid (Hb.out.up hb)
  replace HW := Lib.hid (bel_step HW.out hb)
  clear a0 a1 a2 a3 lta
  clear b0 b1 b2 b3 ltb
  clear hb
  obtain ⟨a0, a1, a2, a3⟩ := Ha.out.cells
  have lta := Ha.out.lt
  obtain ⟨b0, b1, b2, b3⟩ := Hb.out.cells
  have ltb := Hb.out.lt
  rw [RA.out]
  go_wp2_with fail
  refine (right_c Hb.out.din bn ba).mono ?_
  rintro e w5 ⟨rfl, hb⟩
  replace Ha := Lib.hid (Ha.out.up hb)
  replace Hb := Lib.hid (Hb.out.up hb)
  replace HW := Lib.hid (bel_step HW.out hb)
  clear a0 a1 a2 a3 lta
  clear b0 b1 b2 b3 ltb
  clear hb
  obtain ⟨a0, a1, a2, a3⟩ := Ha.out.cells
  have lta := Ha.out.lt
  obtain ⟨b0, b1, b2, b3⟩ := Hb.out.cells
  have ltb := Hb.out.lt
  rw [RB.out]
  go_wp2_with fail
  go_ret
  exact ⟨rfl, HW.out⟩
set_option maxHeartbeats 8000000 in
set_option maxRecDepth 100000 in
theorem tightOrders_main (a b : D) (An Aa Bn Ba : Option Addr) (an aa bn ba : Nat) (w : World) (ha : DIn w a An Aa) (hb : DIn w b Bn Ba) (ga : a.great = false) (gb : b.great = false) (ra : a.right = true) (rb : b.right = true) (hK : a.K = b.K) :
    Calls Try.prog 18 #[dfaV a.K a.S An a.N.length an Aa a.A.length aa, dfaV b.K b.S Bn b.N.length bn Ba b.A.length ba] w (Ret (.bool true) w) := by
  obtain ⟨s1, s2, _⟩ := D.great_no ga
  obtain ⟨t1, t2, _⟩ := D.great_no gb
  have oka := D.right_true.1 ra
  have okb := D.right_true.1 rb
  have hsz : a.A.length * b.A.length ≤ 144 := Nat.mul_le_mul s1 t1
  have hpo := prodOk_yes oka okb hK
  have HSZ := Lib.hid hsz; have HPO := Lib.hid hpo; have OKA := Lib.hid oka; have OKB := Lib.hid okb; have HKE := Lib.hid hK
  have HS1 := Lib.hid s1; have HT1 := Lib.hid t1
  have C62 := Lib.hid (fun (W : World) (h1 : DIn W a An Aa) (h2 : DIn W b Bn Ba) => same_yes h1 h2 an aa bn ba oka okb hK (by omega))
  have C63 := Lib.hid (fun (W : World) (h1 : DIn W a An Aa) (h2 : DIn W b Bn Ba) => within_yes h1 h2 an aa bn ba oka okb hK (by omega))
  have C63r := Lib.hid (fun (W : World) (h1 : DIn W a An Aa) (h2 : DIn W b Bn Ba) => within_yes h2 h1 bn ba an aa okb oka hK.symm (by rw [Nat.mul_comm]; omega))
  have C57a := Lib.hid (fun (W : World) (h1 : DIn W a An Aa) => tight_yes a An Aa an aa W h1 oka)
  have C57b := Lib.hid (fun (W : World) (h1 : DIn W b Bn Ba) => tight_yes b Bn Ba bn ba W h1 okb)
  have C39 := Lib.hid (fun (W : World) (h1 : DIn W a An Aa) (h2 : DIn W b Bn Ba) => (both_c h1 h2 an aa bn ba (.inl (by omega))).mono (R' := fun e w' => ∃ d, (∃ L, ProdOf (fun x y => x && y) a b d L) ∧ Gives W d 0 e w') (fun e w' ⟨d1, er, hq, hg⟩ => by obtain ⟨rfl, L, hL⟩ := hq.1 hpo; exact ⟨d1, ⟨L, hL⟩, hg⟩))
  have C41 := Lib.hid (fun (W : World) (h1 : DIn W a An Aa) (h2 : DIn W b Bn Ba) => (less_c h1 h2 an aa bn ba (.inl (by omega))).mono (R' := fun e w' => ∃ d, (∃ L, ProdOf (fun x y => x && !y) a b d L) ∧ Gives W d 0 e w') (fun e w' ⟨d1, er, hq, hg⟩ => by obtain ⟨rfl, L, hL⟩ := hq.1 hpo; exact ⟨d1, ⟨L, hL⟩, hg⟩))
  have hKf : (a.K != b.K) = false := by rw [hK]; simp
  clear hsz hpo oka okb hK s1 s2 t1 t2
  have GA := Lib.hid ga; clear ga
  have GB := Lib.hid gb; clear gb
  have RA := Lib.hid ra; clear ra
  have RB := Lib.hid rb; clear rb
  have Ha := Lib.hid ((HasD.new ha an aa).alloc (.cells #[.int .i64 b.K, .int .i64 b.S, .slice Bn b.N.length bn, .slice Ba b.A.length ba] 25))
  have Hb : Hid (HasD ((w.alloc (.cells #[.int .i64 a.K, .int .i64 a.S, .slice An a.N.length an, .slice Aa a.A.length aa] 25)).alloc (.cells #[.int .i64 b.K, .int .i64 b.S, .slice Bn b.N.length bn, .slice Ba b.A.length ba] 25)) (w.heap.size + 1) b Bn bn Ba ba) := HasD.newAt (hb.alloc _) bn ba (by simp)
  have HW := Lib.hid (bel_alloc (bel_new w (.cells #[.int .i64 a.K, .int .i64 a.S, .slice An a.N.length an, .slice Aa a.A.length aa] 25)) (.cells #[.int .i64 b.K, .int .i64 b.S, .slice Bn b.N.length bn, .slice Ba b.A.length ba] 25))
  clear ha hb
  go_enter Try.func18, Try.ntmps18
  go_wp2_with fail
  refine (tightAlive_any _).mono ?_
  rintro e w1 ⟨rfl, hb⟩
  replace Ha := Lib.hid (Ha.out.up hb)
  replace Hb := Lib.hid (Hb.out.up hb)
  replace HW := Lib.hid (bel_step HW.out hb)
  clear hb
  obtain ⟨a0, a1, a2, a3⟩ := Ha.out.cells
  have lta := Ha.out.lt
  obtain ⟨b0, b1, b2, b3⟩ := Hb.out.cells
  have ltb := Hb.out.lt
  go_wp2_with fail
  refine (great16_c a An Aa an aa _).mono ?_
  rintro e w2 ⟨rfl, hb⟩
  replace Ha := Lib.hid (Ha.out.up hb)
  replace Hb := Lib.hid (Hb.out.up hb)
  replace HW := Lib.hid (bel_step HW.out hb)
  clear a0 a1 a2 a3 lta
  clear b0 b1 b2 b3 ltb
  clear hb
  obtain ⟨a0, a1, a2, a3⟩ := Ha.out.cells
  have lta := Ha.out.lt
  obtain ⟨b0, b1, b2, b3⟩ := Hb.out.cells
  have ltb := Hb.out.lt
  rw [GA.out]
  go_wp2_with fail
  refine (great16_c b Bn Ba bn ba _).mono ?_
  rintro e w3 ⟨rfl, hb⟩
  replace Ha := Lib.hid (Ha.out.up hb)
  replace Hb := Lib.hid (Hb.out.up hb)
  replace HW := Lib.hid (bel_step HW.out hb)
  clear a0 a1 a2 a3 lta
  clear b0 b1 b2 b3 ltb
  clear hb
  obtain ⟨a0, a1, a2, a3⟩ := Ha.out.cells
  have lta := Ha.out.lt
  obtain ⟨b0, b1, b2, b3⟩ := Hb.out.cells
  have ltb := Hb.out.lt
  rw [GB.out]
  go_wp2_with fail
  refine (right_c Ha.out.din an aa).mono ?_
  rintro e w4 ⟨rfl, hb⟩
  replace Ha := Lib.hid (Ha.out.up hb)
  replace Hb := Lib.hid (Hb.out.up hb)
  replace HW := Lib.hid (bel_step HW.out hb)
  clear a0 a1 a2 a3 lta
  clear b0 b1 b2 b3 ltb
  clear hb
  obtain ⟨a0, a1, a2, a3⟩ := Ha.out.cells
  have lta := Ha.out.lt
  obtain ⟨b0, b1, b2, b3⟩ := Hb.out.cells
  have ltb := Hb.out.lt
  rw [RA.out]
  go_wp2_with fail
  refine (right_c Hb.out.din bn ba).mono ?_
  rintro e w5 ⟨rfl, hb⟩
  replace Ha := Lib.hid (Ha.out.up hb)
  replace Hb := Lib.hid (Hb.out.up hb)
  replace HW := Lib.hid (bel_step HW.out hb)
  clear a0 a1 a2 a3 lta
  clear b0 b1 b2 b3 ltb
  clear hb
  obtain ⟨a0, a1, a2, a3⟩ := Ha.out.cells
  have lta := Ha.out.lt
  obtain ⟨b0, b1, b2, b3⟩ := Hb.out.cells
  have ltb := Hb.out.lt
  rw [RB.out]
  go_wp2_with fail
  refine (C62.out _ Ha.out.din Hb.out.din).mono ?_
  rintro e w6 ⟨sm, rfl, hsm, hb⟩
  replace Ha := Lib.hid (Ha.out.up hb)
  replace Hb := Lib.hid (Hb.out.up hb)
  replace HW := Lib.hid (bel_step HW.out hb)
  clear a0 a1 a2 a3 lta
  clear b0 b1 b2 b3 ltb
  clear hb
  have HSM : Hid (sm = true ↔ LikeP a b) := hsm.trans allP_like
  clear hsm
  obtain ⟨a0, a1, a2, a3⟩ := Ha.out.cells
  have lta := Ha.out.lt
  obtain ⟨b0, b1, b2, b3⟩ := Hb.out.cells
  have ltb := Hb.out.lt
  go_wp2_with fail
  refine (C63.out _ Ha.out.din Hb.out.din).mono ?_
  rintro e w7 ⟨i1, rfl, hi, hb⟩
  replace Ha := Lib.hid (Ha.out.up hb)
  replace Hb := Lib.hid (Hb.out.up hb)
  replace HW := Lib.hid (bel_step HW.out hb)
  clear a0 a1 a2 a3 lta
  clear b0 b1 b2 b3 ltb
  clear hb
  have HI1 : Hid (i1 = true ↔ InP a b) := hi
  clear hi
  obtain ⟨a0, a1, a2, a3⟩ := Ha.out.cells
  have lta := Ha.out.lt
  obtain ⟨b0, b1, b2, b3⟩ := Hb.out.cells
  have ltb := Hb.out.lt
  go_wp2_with fail
  refine (C63r.out _ Ha.out.din Hb.out.din).mono ?_
  rintro e w8 ⟨i2, rfl, hi, hb⟩
  replace Ha := Lib.hid (Ha.out.up hb)
  replace Hb := Lib.hid (Hb.out.up hb)
  replace HW := Lib.hid (bel_step HW.out hb)
  clear a0 a1 a2 a3 lta
  clear b0 b1 b2 b3 ltb
  clear hb
  have HI2 : Hid (i2 = true ↔ InP b a) := hi
  clear hi
  obtain ⟨a0, a1, a2, a3⟩ := Ha.out.cells
  have lta := Ha.out.lt
  obtain ⟨b0, b1, b2, b3⟩ := Hb.out.cells
  have ltb := Hb.out.lt
  obtain rfl : sm = (i1 && i2) := by
    rw [Bool.eq_iff_iff, Bool.and_eq_true, HSM.out, HI1.out, HI2.out]
    exact likeP_in HKE.out
  go_wp2_with fail
  refine (C57a.out _ Ha.out.din).mono ?_
  rintro e w9 ⟨x, hT, v, rfl, hx, hb⟩
  replace Ha := Lib.hid (Ha.out.up hb)
  replace Hb := Lib.hid (Hb.out.up hb)
  replace HW := Lib.hid (bel_step HW.out hb)
  clear a0 a1 a2 a3 lta
  clear b0 b1 b2 b3 ltb
  clear hb
  obtain ⟨Xn, Xm, Xa, Xb, rfl, dx⟩ := hx.din (D.Ok.sizes hT.ok)
  have HTx := Lib.hid hT
  clear hx hT
  obtain ⟨a0, a1, a2, a3⟩ := Ha.out.cells
  have lta := Ha.out.lt
  obtain ⟨b0, b1, b2, b3⟩ := Hb.out.cells
  have ltb := Hb.out.lt
  have Hx := Lib.hid (HasD.new dx Xm Xb)
  replace Ha := Lib.hid (Ha.out.alloc (.cells #[.int .i64 x.K, .int .i64 x.S, .slice Xn x.N.length Xm, .slice Xa x.A.length Xb] 25))
  replace Hb := Lib.hid (Hb.out.alloc (.cells #[.int .i64 x.K, .int .i64 x.S, .slice Xn x.N.length Xm, .slice Xa x.A.length Xb] 25))
  replace HW := Lib.hid (bel_alloc HW.out (.cells #[.int .i64 x.K, .int .i64 x.S, .slice Xn x.N.length Xm, .slice Xa x.A.length Xb] 25))
  clear dx
  go_wp2_with fail
  refine (C57b.out _ Hb.out.din).mono ?_
  rintro e w10 ⟨y, hT, v, rfl, hx, hb⟩
  replace Ha := Lib.hid (Ha.out.up hb)
  replace Hb := Lib.hid (Hb.out.up hb)
  replace Hx := Lib.hid (Hx.out.up hb)
  replace HW := Lib.hid (bel_step HW.out hb)
  clear a0 a1 a2 a3 lta
  clear b0 b1 b2 b3 ltb
  clear hb
  obtain ⟨Yn, Ym, Ya, Yb, rfl, dx⟩ := hx.din (D.Ok.sizes hT.ok)
  have HTy := Lib.hid hT
  clear hx hT
  obtain ⟨a0, a1, a2, a3⟩ := Ha.out.cells
  have lta := Ha.out.lt
  obtain ⟨b0, b1, b2, b3⟩ := Hb.out.cells
  have ltb := Hb.out.lt
  obtain ⟨x0, x1, x2, x3⟩ := Hx.out.cells
  have ltx := Hx.out.lt
  have Hy := Lib.hid (HasD.new dx Ym Yb)
  replace Ha := Lib.hid (Ha.out.alloc (.cells #[.int .i64 y.K, .int .i64 y.S, .slice Yn y.N.length Ym, .slice Ya y.A.length Yb] 25))
  replace Hb := Lib.hid (Hb.out.alloc (.cells #[.int .i64 y.K, .int .i64 y.S, .slice Yn y.N.length Ym, .slice Ya y.A.length Yb] 25))
  replace Hx := Lib.hid (Hx.out.alloc (.cells #[.int .i64 y.K, .int .i64 y.S, .slice Yn y.N.length Ym, .slice Ya y.A.length Yb] 25))
  replace HW := Lib.hid (bel_alloc HW.out (.cells #[.int .i64 y.K, .int .i64 y.S, .slice Yn y.N.length Ym, .slice Ya y.A.length Yb] 25))
  clear dx
  go_wp2_with fail
  refine (C39.out _ Ha.out.din Hb.out.din).mono ?_
  rintro e w11 ⟨p, hpp, v, rfl, hx, hb⟩
  replace Ha := Lib.hid (Ha.out.up hb)
  replace Hb := Lib.hid (Hb.out.up hb)
  replace Hx := Lib.hid (Hx.out.up hb)
  replace Hy := Lib.hid (Hy.out.up hb)
  replace HW := Lib.hid (bel_step HW.out hb)
  clear a0 a1 a2 a3 lta
  clear b0 b1 b2 b3 ltb
  clear x0 x1 x2 x3 ltx
  clear hb
  have OKp : Hid (p.Ok ∧ p.A.length ≤ a.A.length * b.A.length ∧ p.K = a.K) := by obtain ⟨L, hL⟩ := hpp; exact prod_ok hL OKA.out OKB.out HKE.out (by have := HSZ.out; omega)
  have HPp := Lib.hid hpp
  obtain ⟨Pn, Pm, Pa, Pb, rfl, dx⟩ := hx.din (D.Ok.sizes OKp.out.1)
  clear hx hpp
  obtain ⟨a0, a1, a2, a3⟩ := Ha.out.cells
  have lta := Ha.out.lt
  obtain ⟨b0, b1, b2, b3⟩ := Hb.out.cells
  have ltb := Hb.out.lt
  obtain ⟨x0, x1, x2, x3⟩ := Hx.out.cells
  have ltx := Hx.out.lt
  obtain ⟨y0, y1, y2, y3⟩ := Hy.out.cells
  have lty := Hy.out.lt
  have Hp := Lib.hid (HasD.new dx Pm Pb)
  replace Ha := Lib.hid (Ha.out.alloc (.cells #[.int .i64 p.K, .int .i64 p.S, .slice Pn p.N.length Pm, .slice Pa p.A.length Pb] 25))
  replace Hb := Lib.hid (Hb.out.alloc (.cells #[.int .i64 p.K, .int .i64 p.S, .slice Pn p.N.length Pm, .slice Pa p.A.length Pb] 25))
  replace Hx := Lib.hid (Hx.out.alloc (.cells #[.int .i64 p.K, .int .i64 p.S, .slice Pn p.N.length Pm, .slice Pa p.A.length Pb] 25))
  replace Hy := Lib.hid (Hy.out.alloc (.cells #[.int .i64 p.K, .int .i64 p.S, .slice Pn p.N.length Pm, .slice Pa p.A.length Pb] 25))
  replace HW := Lib.hid (bel_alloc HW.out (.cells #[.int .i64 p.K, .int .i64 p.S, .slice Pn p.N.length Pm, .slice Pa p.A.length Pb] 25))
  clear dx
  have hpa : p.A.length * a.A.length ≤ 1000000 := Nat.le_trans (Nat.mul_le_mul (Nat.le_trans OKp.out.2.1 HSZ.out) HS1.out) (by omega)
  have hpb : p.A.length * b.A.length ≤ 1000000 := Nat.le_trans (Nat.mul_le_mul (Nat.le_trans OKp.out.2.1 HSZ.out) HT1.out) (by omega)
  have HPA := Lib.hid hpa; have HPB := Lib.hid hpb
  clear hpa hpb
  go_wp2_with fail
  refine (within_yes Hp.out.din Ha.out.din Pm Pb an aa OKp.out.1 OKA.out OKp.out.2.2 HPA.out).mono ?_
  rintro e w12 ⟨u1, rfl, hu1, hb⟩
  replace Ha := Lib.hid (Ha.out.up hb)
  replace Hb := Lib.hid (Hb.out.up hb)
  replace Hx := Lib.hid (Hx.out.up hb)
  replace Hy := Lib.hid (Hy.out.up hb)
  replace Hp := Lib.hid (Hp.out.up hb)
  replace HW := Lib.hid (bel_step HW.out hb)
  clear a0 a1 a2 a3 lta
  clear b0 b1 b2 b3 ltb
  clear x0 x1 x2 x3 ltx
  clear y0 y1 y2 y3 lty
  clear hb
  obtain rfl : u1 = true := hu1.2 (by obtain ⟨L, hL⟩ := HPp.out; exact both_in_fst hL)
  clear hu1
  obtain ⟨a0, a1, a2, a3⟩ := Ha.out.cells
  have lta := Ha.out.lt
  obtain ⟨b0, b1, b2, b3⟩ := Hb.out.cells
  have ltb := Hb.out.lt
  obtain ⟨x0, x1, x2, x3⟩ := Hx.out.cells
  have ltx := Hx.out.lt
  obtain ⟨y0, y1, y2, y3⟩ := Hy.out.cells
  have lty := Hy.out.lt
  obtain ⟨p0, p1, p2, p3⟩ := Hp.out.cells
  have ltp := Hp.out.lt
  go_wp2_with fail
  refine (within_yes Hp.out.din Hb.out.din Pm Pb bn ba OKp.out.1 OKB.out (OKp.out.2.2.trans HKE.out) HPB.out).mono ?_
  rintro e w13 ⟨u2, rfl, hu2, hb⟩
  replace Ha := Lib.hid (Ha.out.up hb)
  replace Hb := Lib.hid (Hb.out.up hb)
  replace Hx := Lib.hid (Hx.out.up hb)
  replace Hy := Lib.hid (Hy.out.up hb)
  replace Hp := Lib.hid (Hp.out.up hb)
  replace HW := Lib.hid (bel_step HW.out hb)
  clear a0 a1 a2 a3 lta
  clear b0 b1 b2 b3 ltb
  clear x0 x1 x2 x3 ltx
  clear y0 y1 y2 y3 lty
  clear p0 p1 p2 p3 ltp
  clear hb
  obtain rfl : u2 = true := hu2.2 (by obtain ⟨L, hL⟩ := HPp.out; exact both_in_snd hL)
  clear hu2
  obtain ⟨a0, a1, a2, a3⟩ := Ha.out.cells
  have lta := Ha.out.lt
  obtain ⟨b0, b1, b2, b3⟩ := Hb.out.cells
  have ltb := Hb.out.lt
  obtain ⟨x0, x1, x2, x3⟩ := Hx.out.cells
  have ltx := Hx.out.lt
  obtain ⟨y0, y1, y2, y3⟩ := Hy.out.cells
  have lty := Hy.out.lt
  obtain ⟨p0, p1, p2, p3⟩ := Hp.out.cells
  have ltp := Hp.out.lt
  go_wp2_with fail
  refine (C41.out _ Ha.out.din Hb.out.din).mono ?_
  rintro e w14 ⟨q, hpq, v, rfl, hx, hb⟩
  replace Ha := Lib.hid (Ha.out.up hb)
  replace Hb := Lib.hid (Hb.out.up hb)
  replace Hx := Lib.hid (Hx.out.up hb)
  replace Hy := Lib.hid (Hy.out.up hb)
  replace Hp := Lib.hid (Hp.out.up hb)
  replace HW := Lib.hid (bel_step HW.out hb)
  clear a0 a1 a2 a3 lta
  clear b0 b1 b2 b3 ltb
  clear x0 x1 x2 x3 ltx
  clear y0 y1 y2 y3 lty
  clear p0 p1 p2 p3 ltp
  clear hb
  have OKq : Hid (q.Ok ∧ q.A.length ≤ a.A.length * b.A.length ∧ q.K = a.K) := by obtain ⟨L, hL⟩ := hpq; exact prod_ok hL OKA.out OKB.out HKE.out (by have := HSZ.out; omega)
  have HPq := Lib.hid hpq
  obtain ⟨Qn, Qm, Qa, Qb, rfl, dx⟩ := hx.din (D.Ok.sizes OKq.out.1)
  clear hx hpq
  obtain ⟨a0, a1, a2, a3⟩ := Ha.out.cells
  have lta := Ha.out.lt
  obtain ⟨b0, b1, b2, b3⟩ := Hb.out.cells
  have ltb := Hb.out.lt
  obtain ⟨x0, x1, x2, x3⟩ := Hx.out.cells
  have ltx := Hx.out.lt
  obtain ⟨y0, y1, y2, y3⟩ := Hy.out.cells
  have lty := Hy.out.lt
  obtain ⟨p0, p1, p2, p3⟩ := Hp.out.cells
  have ltp := Hp.out.lt
  have Hq := Lib.hid (HasD.new dx Qm Qb)
  replace Ha := Lib.hid (Ha.out.alloc (.cells #[.int .i64 q.K, .int .i64 q.S, .slice Qn q.N.length Qm, .slice Qa q.A.length Qb] 25))
  replace Hb := Lib.hid (Hb.out.alloc (.cells #[.int .i64 q.K, .int .i64 q.S, .slice Qn q.N.length Qm, .slice Qa q.A.length Qb] 25))
  replace Hx := Lib.hid (Hx.out.alloc (.cells #[.int .i64 q.K, .int .i64 q.S, .slice Qn q.N.length Qm, .slice Qa q.A.length Qb] 25))
  replace Hy := Lib.hid (Hy.out.alloc (.cells #[.int .i64 q.K, .int .i64 q.S, .slice Qn q.N.length Qm, .slice Qa q.A.length Qb] 25))
  replace Hp := Lib.hid (Hp.out.alloc (.cells #[.int .i64 q.K, .int .i64 q.S, .slice Qn q.N.length Qm, .slice Qa q.A.length Qb] 25))
  replace HW := Lib.hid (bel_alloc HW.out (.cells #[.int .i64 q.K, .int .i64 q.S, .slice Qn q.N.length Qm, .slice Qa q.A.length Qb] 25))
  clear dx
  go_wp2_with fail
  refine (empty_yes Hq.out.din Qm Qb OKq.out.1).mono ?_
  rintro e w15 ⟨em, rfl, hem, hb⟩
  replace Ha := Lib.hid (Ha.out.up hb)
  replace Hb := Lib.hid (Hb.out.up hb)
  replace Hx := Lib.hid (Hx.out.up hb)
  replace Hy := Lib.hid (Hy.out.up hb)
  replace Hp := Lib.hid (Hp.out.up hb)
  replace Hq := Lib.hid (Hq.out.up hb)
  replace HW := Lib.hid (bel_step HW.out hb)
  clear a0 a1 a2 a3 lta
  clear b0 b1 b2 b3 ltb
  clear x0 x1 x2 x3 ltx
  clear y0 y1 y2 y3 lty
  clear p0 p1 p2 p3 ltp
  clear hb
  obtain rfl : em = i1 := by
    obtain ⟨L, hL⟩ := HPq.out
    rw [Bool.eq_iff_iff, hem, HI1.out]
    exact less_empty hL
  clear hem
  obtain ⟨a0, a1, a2, a3⟩ := Ha.out.cells
  have lta := Ha.out.lt
  obtain ⟨b0, b1, b2, b3⟩ := Hb.out.cells
  have ltb := Hb.out.lt
  obtain ⟨x0, x1, x2, x3⟩ := Hx.out.cells
  have ltx := Hx.out.lt
  obtain ⟨y0, y1, y2, y3⟩ := Hy.out.cells
  have lty := Hy.out.lt
  obtain ⟨p0, p1, p2, p3⟩ := Hp.out.cells
  have ltp := Hp.out.lt
  obtain ⟨q0, q1, q2, q3⟩ := Hq.out.cells
  have ltq := Hq.out.lt
  have C58 := Lib.hid (fun (W : World) (h1 : DIn W x Xn Xa) (h2 : DIn W y Yn Ya) => equal_any x y Xn Xa Yn Ya Xm Xb Ym Yb W h1 h2)
  have hxy : decide (x = y) = (em && i2) := by
    rw [Bool.eq_iff_iff, decide_eq_true_iff]
    exact (HTx.out.iff HTy.out HKE.out).trans HSM.out.symm
  rw [hxy] at C58
  clear hxy HSM HI1 HI2
  rcases em with _ | _ <;> rcases i2 with _ | _
  all_goals
    go_wp2_with fail
    refine (C58.out _ Hx.out.din Hy.out.din).mono ?_
    rintro e w16 ⟨rfl, hb⟩
    replace Ha := Lib.hid (Ha.out.up hb)
    replace Hb := Lib.hid (Hb.out.up hb)
    replace Hx := Lib.hid (Hx.out.up hb)
    replace Hy := Lib.hid (Hy.out.up hb)
    replace Hp := Lib.hid (Hp.out.up hb)
    replace Hq := Lib.hid (Hq.out.up hb)
    replace HW := Lib.hid (bel_step HW.out hb)
    clear a0 a1 a2 a3 lta
    clear b0 b1 b2 b3 ltb
    clear x0 x1 x2 x3 ltx
    clear y0 y1 y2 y3 lty
    clear p0 p1 p2 p3 ltp
    clear q0 q1 q2 q3 ltq
    clear hb
    obtain ⟨a0, a1, a2, a3⟩ := Ha.out.cells
    have lta := Ha.out.lt
    obtain ⟨b0, b1, b2, b3⟩ := Hb.out.cells
    have ltb := Hb.out.lt
    obtain ⟨x0, x1, x2, x3⟩ := Hx.out.cells
    have ltx := Hx.out.lt
    obtain ⟨y0, y1, y2, y3⟩ := Hy.out.cells
    have lty := Hy.out.lt
    obtain ⟨p0, p1, p2, p3⟩ := Hp.out.cells
    have ltp := Hp.out.lt
    obtain ⟨q0, q1, q2, q3⟩ := Hq.out.cells
    have ltq := Hq.out.lt
    go_wp2_with fail
    go_ret
    exact ⟨rfl, HW.out⟩
theorem tightOrders_law (a b : D) (An Aa Bn Ba : Option Addr) (an aa bn ba : Nat) (w : World) (ha : DIn w a An Aa) (hb : DIn w b Bn Ba) :
    Calls Try.prog 18 #[dfaV a.K a.S An a.N.length an Aa a.A.length aa, dfaV b.K b.S Bn b.N.length bn Ba b.A.length ba] w (Ret (.bool true) w) := by
  rcases ga : a.great with _ | _
  · rcases gb : b.great with _ | _
    · rcases ra : a.right with _ | _
      · exact tightOrders_ra a b An Aa Bn Ba an aa bn ba w ha hb ga gb ra
      · rcases rb : b.right with _ | _
        · exact tightOrders_rb a b An Aa Bn Ba an aa bn ba w ha hb ga gb ra rb
        · by_cases hK : a.K = b.K
          · exact tightOrders_main a b An Aa Bn Ba an aa bn ba w ha hb ga gb ra rb hK
          · exact tightOrders_k a b An Aa Bn Ba an aa bn ba w ha hb ga gb ra rb (bne_iff_ne.2 hK)
    · exact tightOrders_gb a b An Aa Bn Ba an aa bn ba w ha hb ga gb
  · exact tightOrders_ga a b An Aa Bn Ba an aa bn ba w ha hb ga
end Go.Proofs.Ytmpcoclgcldclaa
