/- The walk of the law DfaBoth. -/
import Derived.Test.YtmpcoclgcldclaaZ
namespace Go.Proofs.Ytmpcoclgcldclaa
open Go.RowKit
attribute [local go_sem ↓] Go.wp_at_zero Go.wp_at_succ

theorem Try.enters43 : ∀ args w, (callFunc 43 args).run Try.prog w = .ok (.enter 43 args) w := enters_of Try.func43 (by kernel_rfl) rfl
set_option maxRecDepth 100000 in
theorem want43 (x y : Bool) (w : World) : Calls Try.prog 43 #[.bool x, .bool y] w fun e w' => e = .returned (.bool (x && y)) ∧ w = w' := by
  cases x
  all_goals
    go_enter Try.func43, Try.ntmps43
    go_wp2
    go_ret
    exact ⟨rfl, rfl⟩
theorem Try.enters44 : ∀ args w, (callFunc 44 args).run Try.prog w = .ok (.enter 44 args) w := enters_of Try.func44 (by kernel_rfl) rfl
set_option maxRecDepth 100000 in
theorem want44 (x y : Bool) (w : World) : Calls Try.prog 44 #[.bool x, .bool y] w fun e w' => e = .returned (.bool (x || y)) ∧ w = w' := by
  cases x
  all_goals
    go_enter Try.func44, Try.ntmps44
    go_wp2
    go_ret
    exact ⟨rfl, rfl⟩
theorem Try.enters45 : ∀ args w, (callFunc 45 args).run Try.prog w = .ok (.enter 45 args) w := enters_of Try.func45 (by kernel_rfl) rfl
set_option maxRecDepth 100000 in
theorem want45 (x y : Bool) (w : World) : Calls Try.prog 45 #[.bool x, .bool y] w fun e w' => e = .returned (.bool (x && !y)) ∧ w = w' := by
  cases x
  all_goals
    go_enter Try.func45, Try.ntmps45
    go_wp2
    go_ret
    exact ⟨rfl, rfl⟩
set_option maxHeartbeats 8000000 in
set_option maxRecDepth 100000 in
theorem dfaBoth_ga (a b : D) (An Aa Bn Ba : Option Addr) (an aa bn ba : Nat) (w : World) (ha : DIn w a An Aa) (hb : DIn w b Bn Ba) (ga : a.great = true) :
    Calls Try.prog 7 #[dfaV a.K a.S An a.N.length an Aa a.A.length aa, dfaV b.K b.S Bn b.N.length bn Ba b.A.length ba] w (Ret (.bool true) w) := by
  have GA := Lib.hid ga; clear ga
  have Ha := Lib.hid ((HasD.new ha an aa).alloc (.cells #[.int .i64 b.K, .int .i64 b.S, .slice Bn b.N.length bn, .slice Ba b.A.length ba] 25))
  have Hb : Hid (HasD ((w.alloc (.cells #[.int .i64 a.K, .int .i64 a.S, .slice An a.N.length an, .slice Aa a.A.length aa] 25)).alloc (.cells #[.int .i64 b.K, .int .i64 b.S, .slice Bn b.N.length bn, .slice Ba b.A.length ba] 25)) (w.heap.size + 1) b Bn bn Ba ba) := HasD.newAt (hb.alloc _) bn ba (by simp)
  have HW := Lib.hid (bel_alloc (bel_new w (.cells #[.int .i64 a.K, .int .i64 a.S, .slice An a.N.length an, .slice Aa a.A.length aa] 25)) (.cells #[.int .i64 b.K, .int .i64 b.S, .slice Bn b.N.length bn, .slice Ba b.A.length ba] 25))
  clear ha hb
  go_enter Try.func7, Try.ntmps7
  go_wp2_with fail
  refine (alive_c _).mono ?_
  rintro e w1 ⟨rfl, hb⟩
  replace Ha := Lib.hid (Ha.out.up hb)
  replace Hb := Lib.hid (Hb.out.up hb)
  replace HW := Lib.hid (bel_step HW.out hb)
  clear hb
  obtain ⟨a0, a1, a2, a3⟩ := Ha.out.cells
  have lta := Ha.out.lt
  obtain ⟨b0, b1, b2, b3⟩ := Hb.out.cells
  have ltb := Hb.out.lt
  go_wp2_with fail
  refine (great_c a An Aa an aa _).mono ?_
  rintro e w2 ⟨rfl, hb⟩
  replace Ha := Lib.hid (Ha.out.up hb)
  replace Hb := Lib.hid (Hb.out.up hb)
  replace HW := Lib.hid (bel_step HW.out hb)
  clear a0 a1 a2 a3 lta
  clear b0 b1 b2 b3 ltb
  clear hb
  obtain ⟨a0, a1, a2, a3⟩ := Ha.out.cells
  have lta := Ha.out.lt
  obtain ⟨b0, b1, b2, b3⟩ := Hb.out.cells
  have ltb := Hb.out.lt
  rw [GA.out]
  go_wp2_with fail
  go_ret
  exact ⟨rfl, HW.out⟩
set_option maxHeartbeats 8000000 in
set_option maxRecDepth 100000 in
theorem dfaBoth_gb (a b : D) (An Aa Bn Ba : Option Addr) (an aa bn ba : Nat) (w : World) (ha : DIn w a An Aa) (hb : DIn w b Bn Ba) (ga : a.great = false) (gb : b.great = true) :
    Calls Try.prog 7 #[dfaV a.K a.S An a.N.length an Aa a.A.length aa, dfaV b.K b.S Bn b.N.length bn Ba b.A.length ba] w (Ret (.bool true) w) := by
  have GA := Lib.hid ga; clear ga
  have GB := Lib.hid gb; clear gb
  have Ha := Lib.hid ((HasD.new ha an aa).alloc (.cells #[.int .i64 b.K, .int .i64 b.S, .slice Bn b.N.length bn, .slice Ba b.A.length ba] 25))
  have Hb : Hid (HasD ((w.alloc (.cells #[.int .i64 a.K, .int .i64 a.S, .slice An a.N.length an, .slice Aa a.A.length aa] 25)).alloc (.cells #[.int .i64 b.K, .int .i64 b.S, .slice Bn b.N.length bn, .slice Ba b.A.length ba] 25)) (w.heap.size + 1) b Bn bn Ba ba) := HasD.newAt (hb.alloc _) bn ba (by simp)
  have HW := Lib.hid (bel_alloc (bel_new w (.cells #[.int .i64 a.K, .int .i64 a.S, .slice An a.N.length an, .slice Aa a.A.length aa] 25)) (.cells #[.int .i64 b.K, .int .i64 b.S, .slice Bn b.N.length bn, .slice Ba b.A.length ba] 25))
  clear ha hb
  go_enter Try.func7, Try.ntmps7
  go_wp2_with fail
  refine (alive_c _).mono ?_
  rintro e w1 ⟨rfl, hb⟩
  replace Ha := Lib.hid (Ha.out.up hb)
  replace Hb := Lib.hid (Hb.out.up hb)
  replace HW := Lib.hid (bel_step HW.out hb)
  clear hb
  obtain ⟨a0, a1, a2, a3⟩ := Ha.out.cells
  have lta := Ha.out.lt
  obtain ⟨b0, b1, b2, b3⟩ := Hb.out.cells
  have ltb := Hb.out.lt
  go_wp2_with fail
  refine (great_c a An Aa an aa _).mono ?_
  rintro e w2 ⟨rfl, hb⟩
  replace Ha := Lib.hid (Ha.out.up hb)
  replace Hb := Lib.hid (Hb.out.up hb)
  replace HW := Lib.hid (bel_step HW.out hb)
  clear a0 a1 a2 a3 lta
  clear b0 b1 b2 b3 ltb
  clear hb
  obtain ⟨a0, a1, a2, a3⟩ := Ha.out.cells
  have lta := Ha.out.lt
  obtain ⟨b0, b1, b2, b3⟩ := Hb.out.cells
  have ltb := Hb.out.lt
  rw [GA.out]
  go_wp2_with fail
  refine (great_c b Bn Ba bn ba _).mono ?_
  rintro e w3 ⟨rfl, hb⟩
  replace Ha := Lib.hid (Ha.out.up hb)
  replace Hb := Lib.hid (Hb.out.up hb)
  replace HW := Lib.hid (bel_step HW.out hb)
  clear a0 a1 a2 a3 lta
  clear b0 b1 b2 b3 ltb
  clear hb
  obtain ⟨a0, a1, a2, a3⟩ := Ha.out.cells
  have lta := Ha.out.lt
  obtain ⟨b0, b1, b2, b3⟩ := Hb.out.cells
  have ltb := Hb.out.lt
  rw [GB.out]
  go_wp2_with fail
  go_ret
  exact ⟨rfl, HW.out⟩
set_option maxHeartbeats 8000000 in
set_option maxRecDepth 100000 in
theorem dfaBoth_ra (a b : D) (An Aa Bn Ba : Option Addr) (an aa bn ba : Nat) (w : World) (ha : DIn w a An Aa) (hb : DIn w b Bn Ba) (ga : a.great = false) (gb : b.great = false) (hpr : prodOk a b = false) (ra : a.right = false) :
    Calls Try.prog 7 #[dfaV a.K a.S An a.N.length an Aa a.A.length aa, dfaV b.K b.S Bn b.N.length bn Ba b.A.length ba] w (Ret (.bool true) w) := by
  obtain ⟨hza, _, _⟩ := D.great_no ga
  obtain ⟨hzb, _, _⟩ := D.great_no gb
  have hab : a.A.length * b.A.length ≤ 144 := Nat.le_trans (Nat.mul_le_mul hza hzb) (by omega)
  have HPR := Lib.hid hpr; clear hpr
  have GA := Lib.hid ga; clear ga
  have GB := Lib.hid gb; clear gb
  have RA := Lib.hid ra; clear ra
  have Ha := Lib.hid ((HasD.new ha an aa).alloc (.cells #[.int .i64 b.K, .int .i64 b.S, .slice Bn b.N.length bn, .slice Ba b.A.length ba] 25))
  have Hb : Hid (HasD ((w.alloc (.cells #[.int .i64 a.K, .int .i64 a.S, .slice An a.N.length an, .slice Aa a.A.length aa] 25)).alloc (.cells #[.int .i64 b.K, .int .i64 b.S, .slice Bn b.N.length bn, .slice Ba b.A.length ba] 25)) (w.heap.size + 1) b Bn bn Ba ba) := HasD.newAt (hb.alloc _) bn ba (by simp)
  have HW := Lib.hid (bel_alloc (bel_new w (.cells #[.int .i64 a.K, .int .i64 a.S, .slice An a.N.length an, .slice Aa a.A.length aa] 25)) (.cells #[.int .i64 b.K, .int .i64 b.S, .slice Bn b.N.length bn, .slice Ba b.A.length ba] 25))
  clear ha hb
  go_enter Try.func7, Try.ntmps7
  go_wp2_with fail
  refine (alive_c _).mono ?_
  rintro e w1 ⟨rfl, hb⟩
  replace Ha := Lib.hid (Ha.out.up hb)
  replace Hb := Lib.hid (Hb.out.up hb)
  replace HW := Lib.hid (bel_step HW.out hb)
  clear hb
  obtain ⟨a0, a1, a2, a3⟩ := Ha.out.cells
  have lta := Ha.out.lt
  obtain ⟨b0, b1, b2, b3⟩ := Hb.out.cells
  have ltb := Hb.out.lt
  go_wp2_with fail
  refine (great_c a An Aa an aa _).mono ?_
  rintro e w2 ⟨rfl, hb⟩
  replace Ha := Lib.hid (Ha.out.up hb)
  replace Hb := Lib.hid (Hb.out.up hb)
  replace HW := Lib.hid (bel_step HW.out hb)
  clear a0 a1 a2 a3 lta
  clear b0 b1 b2 b3 ltb
  clear hb
  obtain ⟨a0, a1, a2, a3⟩ := Ha.out.cells
  have lta := Ha.out.lt
  obtain ⟨b0, b1, b2, b3⟩ := Hb.out.cells
  have ltb := Hb.out.lt
  rw [GA.out]
  go_wp2_with fail
  refine (great_c b Bn Ba bn ba _).mono ?_
  rintro e w3 ⟨rfl, hb⟩
  replace Ha := Lib.hid (Ha.out.up hb)
  replace Hb := Lib.hid (Hb.out.up hb)
  replace HW := Lib.hid (bel_step HW.out hb)
  clear a0 a1 a2 a3 lta
  clear b0 b1 b2 b3 ltb
  clear hb
  obtain ⟨a0, a1, a2, a3⟩ := Ha.out.cells
  have lta := Ha.out.lt
  obtain ⟨b0, b1, b2, b3⟩ := Hb.out.cells
  have ltb := Hb.out.lt
  rw [GB.out]
  go_wp2_with fail
  refine (both_c Ha.out.din Hb.out.din an aa bn ba (.inl (by omega))).mono ?_
  rintro e w4 ⟨x, er, hq, v, rfl, hx, hb⟩
  replace Ha := Lib.hid (Ha.out.up hb)
  replace Hb := Lib.hid (Hb.out.up hb)
  replace HW := Lib.hid (bel_step HW.out hb)
  clear a0 a1 a2 a3 lta
  clear b0 b1 b2 b3 ltb
  clear hb
  obtain ⟨rfl, rfl⟩ := hq.2 HPR.out
  obtain ⟨Xn, xxn, Xa, xxa, rfl, dx⟩ := hx.din (by simp [zeroD])
  clear hx hq
  obtain ⟨a0, a1, a2, a3⟩ := Ha.out.cells
  have lta := Ha.out.lt
  obtain ⟨b0, b1, b2, b3⟩ := Hb.out.cells
  have ltb := Hb.out.lt
  have Hx := Lib.hid (HasD.new dx xxn xxa)
  replace Ha := Lib.hid (Ha.out.alloc (.cells #[.int .i64 zeroD.K, .int .i64 zeroD.S, .slice Xn zeroD.N.length xxn, .slice Xa zeroD.A.length xxa] 25))
  replace Hb := Lib.hid (Hb.out.alloc (.cells #[.int .i64 zeroD.K, .int .i64 zeroD.S, .slice Xn zeroD.N.length xxn, .slice Xa zeroD.A.length xxa] 25))
  replace HW := Lib.hid (bel_alloc HW.out (.cells #[.int .i64 zeroD.K, .int .i64 zeroD.S, .slice Xn zeroD.N.length xxn, .slice Xa zeroD.A.length xxa] 25))
  clear dx
  go_wp2_with fail
  refine (either_c Ha.out.din Hb.out.din an aa bn ba (.inl (by omega))).mono ?_
  rintro e w5 ⟨y, er, hq, v, rfl, hx, hb⟩
  replace Ha := Lib.hid (Ha.out.up hb)
  replace Hb := Lib.hid (Hb.out.up hb)
  replace Hx := Lib.hid (Hx.out.up hb)
  replace HW := Lib.hid (bel_step HW.out hb)
  clear a0 a1 a2 a3 lta
  clear b0 b1 b2 b3 ltb
  clear hb
  obtain ⟨rfl, rfl⟩ := hq.2 HPR.out
  obtain ⟨Yn, yyn, Ya, yya, rfl, dx⟩ := hx.din (by simp [zeroD])
  clear hx hq
  obtain ⟨a0, a1, a2, a3⟩ := Ha.out.cells
  have lta := Ha.out.lt
  obtain ⟨b0, b1, b2, b3⟩ := Hb.out.cells
  have ltb := Hb.out.lt
  obtain ⟨x0, x1, x2, x3⟩ := Hx.out.cells
  have ltx := Hx.out.lt
  have Hy := Lib.hid (HasD.new dx yyn yya)
  replace Ha := Lib.hid (Ha.out.alloc (.cells #[.int .i64 zeroD.K, .int .i64 zeroD.S, .slice Yn zeroD.N.length yyn, .slice Ya zeroD.A.length yya] 25))
  replace Hb := Lib.hid (Hb.out.alloc (.cells #[.int .i64 zeroD.K, .int .i64 zeroD.S, .slice Yn zeroD.N.length yyn, .slice Ya zeroD.A.length yya] 25))
  replace Hx := Lib.hid (Hx.out.alloc (.cells #[.int .i64 zeroD.K, .int .i64 zeroD.S, .slice Yn zeroD.N.length yyn, .slice Ya zeroD.A.length yya] 25))
  replace HW := Lib.hid (bel_alloc HW.out (.cells #[.int .i64 zeroD.K, .int .i64 zeroD.S, .slice Yn zeroD.N.length yyn, .slice Ya zeroD.A.length yya] 25))
  clear dx
  go_wp2_with fail
  refine (less_c Ha.out.din Hb.out.din an aa bn ba (.inl (by omega))).mono ?_
  rintro e w6 ⟨z, er, hq, v, rfl, hx, hb⟩
  replace Ha := Lib.hid (Ha.out.up hb)
  replace Hb := Lib.hid (Hb.out.up hb)
  replace Hx := Lib.hid (Hx.out.up hb)
  replace Hy := Lib.hid (Hy.out.up hb)
  replace HW := Lib.hid (bel_step HW.out hb)
  clear a0 a1 a2 a3 lta
  clear b0 b1 b2 b3 ltb
  clear x0 x1 x2 x3 ltx
  clear hb
  obtain ⟨rfl, rfl⟩ := hq.2 HPR.out
  obtain ⟨Zn, zzn, Za, zza, rfl, dx⟩ := hx.din (by simp [zeroD])
  clear hx hq
  obtain ⟨a0, a1, a2, a3⟩ := Ha.out.cells
  have lta := Ha.out.lt
  obtain ⟨b0, b1, b2, b3⟩ := Hb.out.cells
  have ltb := Hb.out.lt
  obtain ⟨x0, x1, x2, x3⟩ := Hx.out.cells
  have ltx := Hx.out.lt
  obtain ⟨y0, y1, y2, y3⟩ := Hy.out.cells
  have lty := Hy.out.lt
  have Hz := Lib.hid (HasD.new dx zzn zza)
  replace Ha := Lib.hid (Ha.out.alloc (.cells #[.int .i64 zeroD.K, .int .i64 zeroD.S, .slice Zn zeroD.N.length zzn, .slice Za zeroD.A.length zza] 25))
  replace Hb := Lib.hid (Hb.out.alloc (.cells #[.int .i64 zeroD.K, .int .i64 zeroD.S, .slice Zn zeroD.N.length zzn, .slice Za zeroD.A.length zza] 25))
  replace Hx := Lib.hid (Hx.out.alloc (.cells #[.int .i64 zeroD.K, .int .i64 zeroD.S, .slice Zn zeroD.N.length zzn, .slice Za zeroD.A.length zza] 25))
  replace Hy := Lib.hid (Hy.out.alloc (.cells #[.int .i64 zeroD.K, .int .i64 zeroD.S, .slice Zn zeroD.N.length zzn, .slice Za zeroD.A.length zza] 25))
  replace HW := Lib.hid (bel_alloc HW.out (.cells #[.int .i64 zeroD.K, .int .i64 zeroD.S, .slice Zn zeroD.N.length zzn, .slice Za zeroD.A.length zza] 25))
  clear dx
  go_wp2_with fail
  refine (refRight_c Ha.out.din an aa).mono ?_
  rintro e w7 ⟨rfl, hb⟩
  replace Ha := Lib.hid (Ha.out.up hb)
  replace Hb := Lib.hid (Hb.out.up hb)
  replace Hx := Lib.hid (Hx.out.up hb)
  replace Hy := Lib.hid (Hy.out.up hb)
  replace Hz := Lib.hid (Hz.out.up hb)
  replace HW := Lib.hid (bel_step HW.out hb)
  clear a0 a1 a2 a3 lta
  clear b0 b1 b2 b3 ltb
  clear x0 x1 x2 x3 ltx
  clear y0 y1 y2 y3 lty
  clear hb
  obtain ⟨a0, a1, a2, a3⟩ := Ha.out.cells
  have lta := Ha.out.lt
  obtain ⟨b0, b1, b2, b3⟩ := Hb.out.cells
  have ltb := Hb.out.lt
  obtain ⟨x0, x1, x2, x3⟩ := Hx.out.cells
  have ltx := Hx.out.lt
  obtain ⟨y0, y1, y2, y3⟩ := Hy.out.cells
  have lty := Hy.out.lt
  obtain ⟨z0, z1, z2, z3⟩ := Hz.out.cells
  have ltz := Hz.out.lt
  rw [RA.out]
  go_wp2_with fail
  refine (zero_c zeroD Xn Xa xxn xxa _).mono ?_
  rintro e w8 ⟨rfl, hb⟩
  replace Ha := Lib.hid (Ha.out.up hb)
  replace Hb := Lib.hid (Hb.out.up hb)
  replace Hx := Lib.hid (Hx.out.up hb)
  replace Hy := Lib.hid (Hy.out.up hb)
  replace Hz := Lib.hid (Hz.out.up hb)
  replace HW := Lib.hid (bel_step HW.out hb)
  clear a0 a1 a2 a3 lta
  clear b0 b1 b2 b3 ltb
  clear x0 x1 x2 x3 ltx
  clear y0 y1 y2 y3 lty
  clear z0 z1 z2 z3 ltz
  clear hb
  obtain ⟨a0, a1, a2, a3⟩ := Ha.out.cells
  have lta := Ha.out.lt
  obtain ⟨b0, b1, b2, b3⟩ := Hb.out.cells
  have ltb := Hb.out.lt
  obtain ⟨x0, x1, x2, x3⟩ := Hx.out.cells
  have ltx := Hx.out.lt
  obtain ⟨y0, y1, y2, y3⟩ := Hy.out.cells
  have lty := Hy.out.lt
  obtain ⟨z0, z1, z2, z3⟩ := Hz.out.cells
  have ltz := Hz.out.lt
  rw [zeroD_zero]
  go_wp2_with fail
  refine (zero_c zeroD Yn Ya yyn yya _).mono ?_
  rintro e w9 ⟨rfl, hb⟩
  replace Ha := Lib.hid (Ha.out.up hb)
  replace Hb := Lib.hid (Hb.out.up hb)
  replace Hx := Lib.hid (Hx.out.up hb)
  replace Hy := Lib.hid (Hy.out.up hb)
  replace Hz := Lib.hid (Hz.out.up hb)
  replace HW := Lib.hid (bel_step HW.out hb)
  clear a0 a1 a2 a3 lta
  clear b0 b1 b2 b3 ltb
  clear x0 x1 x2 x3 ltx
  clear y0 y1 y2 y3 lty
  clear z0 z1 z2 z3 ltz
  clear hb
  obtain ⟨a0, a1, a2, a3⟩ := Ha.out.cells
  have lta := Ha.out.lt
  obtain ⟨b0, b1, b2, b3⟩ := Hb.out.cells
  have ltb := Hb.out.lt
  obtain ⟨x0, x1, x2, x3⟩ := Hx.out.cells
  have ltx := Hx.out.lt
  obtain ⟨y0, y1, y2, y3⟩ := Hy.out.cells
  have lty := Hy.out.lt
  obtain ⟨z0, z1, z2, z3⟩ := Hz.out.cells
  have ltz := Hz.out.lt
  rw [zeroD_zero]
  go_wp2_with fail
  refine (zero_c zeroD Zn Za zzn zza _).mono ?_
  rintro e w10 ⟨rfl, hb⟩
  replace Ha := Lib.hid (Ha.out.up hb)
  replace Hb := Lib.hid (Hb.out.up hb)
  replace Hx := Lib.hid (Hx.out.up hb)
  replace Hy := Lib.hid (Hy.out.up hb)
  replace Hz := Lib.hid (Hz.out.up hb)
  replace HW := Lib.hid (bel_step HW.out hb)
  clear a0 a1 a2 a3 lta
  clear b0 b1 b2 b3 ltb
  clear x0 x1 x2 x3 ltx
  clear y0 y1 y2 y3 lty
  clear z0 z1 z2 z3 ltz
  clear hb
  obtain ⟨a0, a1, a2, a3⟩ := Ha.out.cells
  have lta := Ha.out.lt
  obtain ⟨b0, b1, b2, b3⟩ := Hb.out.cells
  have ltb := Hb.out.lt
  obtain ⟨x0, x1, x2, x3⟩ := Hx.out.cells
  have ltx := Hx.out.lt
  obtain ⟨y0, y1, y2, y3⟩ := Hy.out.cells
  have lty := Hy.out.lt
  obtain ⟨z0, z1, z2, z3⟩ := Hz.out.cells
  have ltz := Hz.out.lt
  rw [zeroD_zero]
  go_wp2_with fail
  go_ret
  exact ⟨rfl, HW.out⟩
set_option maxHeartbeats 8000000 in
set_option maxRecDepth 100000 in
theorem dfaBoth_rb (a b : D) (An Aa Bn Ba : Option Addr) (an aa bn ba : Nat) (w : World) (ha : DIn w a An Aa) (hb : DIn w b Bn Ba) (ga : a.great = false) (gb : b.great = false) (hpr : prodOk a b = false) (ra : a.right = true) (rb : b.right = false) :
    Calls Try.prog 7 #[dfaV a.K a.S An a.N.length an Aa a.A.length aa, dfaV b.K b.S Bn b.N.length bn Ba b.A.length ba] w (Ret (.bool true) w) := by
  obtain ⟨hza, _, _⟩ := D.great_no ga
  obtain ⟨hzb, _, _⟩ := D.great_no gb
  have hab : a.A.length * b.A.length ≤ 144 := Nat.le_trans (Nat.mul_le_mul hza hzb) (by omega)
  have HPR := Lib.hid hpr; clear hpr
  have GA := Lib.hid ga; clear ga
  have GB := Lib.hid gb; clear gb
  have RA := Lib.hid ra; clear ra
  have RB := Lib.hid rb; clear rb
  have Ha := Lib.hid ((HasD.new ha an aa).alloc (.cells #[.int .i64 b.K, .int .i64 b.S, .slice Bn b.N.length bn, .slice Ba b.A.length ba] 25))
  have Hb : Hid (HasD ((w.alloc (.cells #[.int .i64 a.K, .int .i64 a.S, .slice An a.N.length an, .slice Aa a.A.length aa] 25)).alloc (.cells #[.int .i64 b.K, .int .i64 b.S, .slice Bn b.N.length bn, .slice Ba b.A.length ba] 25)) (w.heap.size + 1) b Bn bn Ba ba) := HasD.newAt (hb.alloc _) bn ba (by simp)
  have HW := Lib.hid (bel_alloc (bel_new w (.cells #[.int .i64 a.K, .int .i64 a.S, .slice An a.N.length an, .slice Aa a.A.length aa] 25)) (.cells #[.int .i64 b.K, .int .i64 b.S, .slice Bn b.N.length bn, .slice Ba b.A.length ba] 25))
  clear ha hb
  go_enter Try.func7, Try.ntmps7
  go_wp2_with fail
  refine (alive_c _).mono ?_
  rintro e w1 ⟨rfl, hb⟩
  replace Ha := Lib.hid (Ha.out.up hb)
  replace Hb := Lib.hid (Hb.out.up hb)
  replace HW := Lib.hid (bel_step HW.out hb)
  clear hb
  obtain ⟨a0, a1, a2, a3⟩ := Ha.out.cells
  have lta := Ha.out.lt
  obtain ⟨b0, b1, b2, b3⟩ := Hb.out.cells
  have ltb := Hb.out.lt
  go_wp2_with fail
  refine (great_c a An Aa an aa _).mono ?_
  rintro e w2 ⟨rfl, hb⟩
  replace Ha := Lib.hid (Ha.out.up hb)
  replace Hb := Lib.hid (Hb.out.up hb)
  replace HW := Lib.hid (bel_step HW.out hb)
  clear a0 a1 a2 a3 lta
  clear b0 b1 b2 b3 ltb
  clear hb
  obtain ⟨a0, a1, a2, a3⟩ := Ha.out.cells
  have lta := Ha.out.lt
  obtain ⟨b0, b1, b2, b3⟩ := Hb.out.cells
  have ltb := Hb.out.lt
  rw [GA.out]
  go_wp2_with fail
  refine (great_c b Bn Ba bn ba _).mono ?_
  rintro e w3 ⟨rfl, hb⟩
  replace Ha := Lib.hid (Ha.out.up hb)
  replace Hb := Lib.hid (Hb.out.up hb)
  replace HW := Lib.hid (bel_step HW.out hb)
  clear a0 a1 a2 a3 lta
  clear b0 b1 b2 b3 ltb
  clear hb
  obtain ⟨a0, a1, a2, a3⟩ := Ha.out.cells
  have lta := Ha.out.lt
  obtain ⟨b0, b1, b2, b3⟩ := Hb.out.cells
  have ltb := Hb.out.lt
  rw [GB.out]
  go_wp2_with fail
  refine (both_c Ha.out.din Hb.out.din an aa bn ba (.inl (by omega))).mono ?_
  rintro e w4 ⟨x, er, hq, v, rfl, hx, hb⟩
  replace Ha := Lib.hid (Ha.out.up hb)
  replace Hb := Lib.hid (Hb.out.up hb)
  replace HW := Lib.hid (bel_step HW.out hb)
  clear a0 a1 a2 a3 lta
  clear b0 b1 b2 b3 ltb
  clear hb
  obtain ⟨rfl, rfl⟩ := hq.2 HPR.out
  obtain ⟨Xn, xxn, Xa, xxa, rfl, dx⟩ := hx.din (by simp [zeroD])
  clear hx hq
  obtain ⟨a0, a1, a2, a3⟩ := Ha.out.cells
  have lta := Ha.out.lt
  obtain ⟨b0, b1, b2, b3⟩ := Hb.out.cells
  have ltb := Hb.out.lt
  have Hx := Lib.hid (HasD.new dx xxn xxa)
  replace Ha := Lib.hid (Ha.out.alloc (.cells #[.int .i64 zeroD.K, .int .i64 zeroD.S, .slice Xn zeroD.N.length xxn, .slice Xa zeroD.A.length xxa] 25))
  replace Hb := Lib.hid (Hb.out.alloc (.cells #[.int .i64 zeroD.K, .int .i64 zeroD.S, .slice Xn zeroD.N.length xxn, .slice Xa zeroD.A.length xxa] 25))
  replace HW := Lib.hid (bel_alloc HW.out (.cells #[.int .i64 zeroD.K, .int .i64 zeroD.S, .slice Xn zeroD.N.length xxn, .slice Xa zeroD.A.length xxa] 25))
  clear dx
  go_wp2_with fail
  refine (either_c Ha.out.din Hb.out.din an aa bn ba (.inl (by omega))).mono ?_
  rintro e w5 ⟨y, er, hq, v, rfl, hx, hb⟩
  replace Ha := Lib.hid (Ha.out.up hb)
  replace Hb := Lib.hid (Hb.out.up hb)
  replace Hx := Lib.hid (Hx.out.up hb)
  replace HW := Lib.hid (bel_step HW.out hb)
  clear a0 a1 a2 a3 lta
  clear b0 b1 b2 b3 ltb
  clear hb
  obtain ⟨rfl, rfl⟩ := hq.2 HPR.out
  obtain ⟨Yn, yyn, Ya, yya, rfl, dx⟩ := hx.din (by simp [zeroD])
  clear hx hq
  obtain ⟨a0, a1, a2, a3⟩ := Ha.out.cells
  have lta := Ha.out.lt
  obtain ⟨b0, b1, b2, b3⟩ := Hb.out.cells
  have ltb := Hb.out.lt
  obtain ⟨x0, x1, x2, x3⟩ := Hx.out.cells
  have ltx := Hx.out.lt
  have Hy := Lib.hid (HasD.new dx yyn yya)
  replace Ha := Lib.hid (Ha.out.alloc (.cells #[.int .i64 zeroD.K, .int .i64 zeroD.S, .slice Yn zeroD.N.length yyn, .slice Ya zeroD.A.length yya] 25))
  replace Hb := Lib.hid (Hb.out.alloc (.cells #[.int .i64 zeroD.K, .int .i64 zeroD.S, .slice Yn zeroD.N.length yyn, .slice Ya zeroD.A.length yya] 25))
  replace Hx := Lib.hid (Hx.out.alloc (.cells #[.int .i64 zeroD.K, .int .i64 zeroD.S, .slice Yn zeroD.N.length yyn, .slice Ya zeroD.A.length yya] 25))
  replace HW := Lib.hid (bel_alloc HW.out (.cells #[.int .i64 zeroD.K, .int .i64 zeroD.S, .slice Yn zeroD.N.length yyn, .slice Ya zeroD.A.length yya] 25))
  clear dx
  go_wp2_with fail
  refine (less_c Ha.out.din Hb.out.din an aa bn ba (.inl (by omega))).mono ?_
  rintro e w6 ⟨z, er, hq, v, rfl, hx, hb⟩
  replace Ha := Lib.hid (Ha.out.up hb)
  replace Hb := Lib.hid (Hb.out.up hb)
  replace Hx := Lib.hid (Hx.out.up hb)
  replace Hy := Lib.hid (Hy.out.up hb)
  replace HW := Lib.hid (bel_step HW.out hb)
  clear a0 a1 a2 a3 lta
  clear b0 b1 b2 b3 ltb
  clear x0 x1 x2 x3 ltx
  clear hb
  obtain ⟨rfl, rfl⟩ := hq.2 HPR.out
  obtain ⟨Zn, zzn, Za, zza, rfl, dx⟩ := hx.din (by simp [zeroD])
  clear hx hq
  obtain ⟨a0, a1, a2, a3⟩ := Ha.out.cells
  have lta := Ha.out.lt
  obtain ⟨b0, b1, b2, b3⟩ := Hb.out.cells
  have ltb := Hb.out.lt
  obtain ⟨x0, x1, x2, x3⟩ := Hx.out.cells
  have ltx := Hx.out.lt
  obtain ⟨y0, y1, y2, y3⟩ := Hy.out.cells
  have lty := Hy.out.lt
  have Hz := Lib.hid (HasD.new dx zzn zza)
  replace Ha := Lib.hid (Ha.out.alloc (.cells #[.int .i64 zeroD.K, .int .i64 zeroD.S, .slice Zn zeroD.N.length zzn, .slice Za zeroD.A.length zza] 25))
  replace Hb := Lib.hid (Hb.out.alloc (.cells #[.int .i64 zeroD.K, .int .i64 zeroD.S, .slice Zn zeroD.N.length zzn, .slice Za zeroD.A.length zza] 25))
  replace Hx := Lib.hid (Hx.out.alloc (.cells #[.int .i64 zeroD.K, .int .i64 zeroD.S, .slice Zn zeroD.N.length zzn, .slice Za zeroD.A.length zza] 25))
  replace Hy := Lib.hid (Hy.out.alloc (.cells #[.int .i64 zeroD.K, .int .i64 zeroD.S, .slice Zn zeroD.N.length zzn, .slice Za zeroD.A.length zza] 25))
  replace HW := Lib.hid (bel_alloc HW.out (.cells #[.int .i64 zeroD.K, .int .i64 zeroD.S, .slice Zn zeroD.N.length zzn, .slice Za zeroD.A.length zza] 25))
  clear dx
  go_wp2_with fail
  refine (refRight_c Ha.out.din an aa).mono ?_
  rintro e w7 ⟨rfl, hb⟩
  replace Ha := Lib.hid (Ha.out.up hb)
  replace Hb := Lib.hid (Hb.out.up hb)
  replace Hx := Lib.hid (Hx.out.up hb)
  replace Hy := Lib.hid (Hy.out.up hb)
  replace Hz := Lib.hid (Hz.out.up hb)
  replace HW := Lib.hid (bel_step HW.out hb)
  clear a0 a1 a2 a3 lta
  clear b0 b1 b2 b3 ltb
  clear x0 x1 x2 x3 ltx
  clear y0 y1 y2 y3 lty
  clear hb
  obtain ⟨a0, a1, a2, a3⟩ := Ha.out.cells
  have lta := Ha.out.lt
  obtain ⟨b0, b1, b2, b3⟩ := Hb.out.cells
  have ltb := Hb.out.lt
  obtain ⟨x0, x1, x2, x3⟩ := Hx.out.cells
  have ltx := Hx.out.lt
  obtain ⟨y0, y1, y2, y3⟩ := Hy.out.cells
  have lty := Hy.out.lt
  obtain ⟨z0, z1, z2, z3⟩ := Hz.out.cells
  have ltz := Hz.out.lt
  rw [RA.out]
  go_wp2_with fail
  refine (refRight_c Hb.out.din bn ba).mono ?_
  rintro e w8 ⟨rfl, hb⟩
  replace Ha := Lib.hid (Ha.out.up hb)
  replace Hb := Lib.hid (Hb.out.up hb)
  replace Hx := Lib.hid (Hx.out.up hb)
  replace Hy := Lib.hid (Hy.out.up hb)
  replace Hz := Lib.hid (Hz.out.up hb)
  replace HW := Lib.hid (bel_step HW.out hb)
  clear a0 a1 a2 a3 lta
  clear b0 b1 b2 b3 ltb
  clear x0 x1 x2 x3 ltx
  clear y0 y1 y2 y3 lty
  clear z0 z1 z2 z3 ltz
  clear hb
  obtain ⟨a0, a1, a2, a3⟩ := Ha.out.cells
  have lta := Ha.out.lt
  obtain ⟨b0, b1, b2, b3⟩ := Hb.out.cells
  have ltb := Hb.out.lt
  obtain ⟨x0, x1, x2, x3⟩ := Hx.out.cells
  have ltx := Hx.out.lt
  obtain ⟨y0, y1, y2, y3⟩ := Hy.out.cells
  have lty := Hy.out.lt
  obtain ⟨z0, z1, z2, z3⟩ := Hz.out.cells
  have ltz := Hz.out.lt
  rw [RB.out]
  go_wp2_with fail
  refine (zero_c zeroD Xn Xa xxn xxa _).mono ?_
  rintro e w9 ⟨rfl, hb⟩
  replace Ha := Lib.hid (Ha.out.up hb)
  replace Hb := Lib.hid (Hb.out.up hb)
  replace Hx := Lib.hid (Hx.out.up hb)
  replace Hy := Lib.hid (Hy.out.up hb)
  replace Hz := Lib.hid (Hz.out.up hb)
  replace HW := Lib.hid (bel_step HW.out hb)
  clear a0 a1 a2 a3 lta
  clear b0 b1 b2 b3 ltb
  clear x0 x1 x2 x3 ltx
  clear y0 y1 y2 y3 lty
  clear z0 z1 z2 z3 ltz
  clear hb
  obtain ⟨a0, a1, a2, a3⟩ := Ha.out.cells
  have lta := Ha.out.lt
  obtain ⟨b0, b1, b2, b3⟩ := Hb.out.cells
  have ltb := Hb.out.lt
  obtain ⟨x0, x1, x2, x3⟩ := Hx.out.cells
  have ltx := Hx.out.lt
  obtain ⟨y0, y1, y2, y3⟩ := Hy.out.cells
  have lty := Hy.out.lt
  obtain ⟨z0, z1, z2, z3⟩ := Hz.out.cells
  have ltz := Hz.out.lt
  rw [zeroD_zero]
  go_wp2_with fail
  refine (zero_c zeroD Yn Ya yyn yya _).mono ?_
  rintro e w10 ⟨rfl, hb⟩
  replace Ha := Lib.hid (Ha.out.up hb)
  replace Hb := Lib.hid (Hb.out.up hb)
  replace Hx := Lib.hid (Hx.out.up hb)
  replace Hy := Lib.hid (Hy.out.up hb)
  replace Hz := Lib.hid (Hz.out.up hb)
  replace HW := Lib.hid (bel_step HW.out hb)
  clear a0 a1 a2 a3 lta
  clear b0 b1 b2 b3 ltb
  clear x0 x1 x2 x3 ltx
  clear y0 y1 y2 y3 lty
  clear z0 z1 z2 z3 ltz
  clear hb
  obtain ⟨a0, a1, a2, a3⟩ := Ha.out.cells
  have lta := Ha.out.lt
  obtain ⟨b0, b1, b2, b3⟩ := Hb.out.cells
  have ltb := Hb.out.lt
  obtain ⟨x0, x1, x2, x3⟩ := Hx.out.cells
  have ltx := Hx.out.lt
  obtain ⟨y0, y1, y2, y3⟩ := Hy.out.cells
  have lty := Hy.out.lt
  obtain ⟨z0, z1, z2, z3⟩ := Hz.out.cells
  have ltz := Hz.out.lt
  rw [zeroD_zero]
  go_wp2_with fail
  refine (zero_c zeroD Zn Za zzn zza _).mono ?_
  rintro e w11 ⟨rfl, hb⟩
  replace Ha := Lib.hid (Ha.out.up hb)
  replace Hb := Lib.hid (Hb.out.up hb)
  replace Hx := Lib.hid (Hx.out.up hb)
  replace Hy := Lib.hid (Hy.out.up hb)
  replace Hz := Lib.hid (Hz.out.up hb)
  replace HW := Lib.hid (bel_step HW.out hb)
  clear a0 a1 a2 a3 lta
  clear b0 b1 b2 b3 ltb
  clear x0 x1 x2 x3 ltx
  clear y0 y1 y2 y3 lty
  clear z0 z1 z2 z3 ltz
  clear hb
  obtain ⟨a0, a1, a2, a3⟩ := Ha.out.cells
  have lta := Ha.out.lt
  obtain ⟨b0, b1, b2, b3⟩ := Hb.out.cells
  have ltb := Hb.out.lt
  obtain ⟨x0, x1, x2, x3⟩ := Hx.out.cells
  have ltx := Hx.out.lt
  obtain ⟨y0, y1, y2, y3⟩ := Hy.out.cells
  have lty := Hy.out.lt
  obtain ⟨z0, z1, z2, z3⟩ := Hz.out.cells
  have ltz := Hz.out.lt
  rw [zeroD_zero]
  go_wp2_with fail
  go_ret
  exact ⟨rfl, HW.out⟩
set_option maxHeartbeats 8000000 in
set_option maxRecDepth 100000 in
theorem dfaBoth_kk (a b : D) (An Aa Bn Ba : Option Addr) (an aa bn ba : Nat) (w : World) (ha : DIn w a An Aa) (hb : DIn w b Bn Ba) (ga : a.great = false) (gb : b.great = false) (hpr : prodOk a b = false) (ra : a.right = true) (rb : b.right = true) (hk : (a.K != b.K) = true) :
    Calls Try.prog 7 #[dfaV a.K a.S An a.N.length an Aa a.A.length aa, dfaV b.K b.S Bn b.N.length bn Ba b.A.length ba] w (Ret (.bool true) w) := by
  obtain ⟨hza, _, _⟩ := D.great_no ga
  obtain ⟨hzb, _, _⟩ := D.great_no gb
  have hab : a.A.length * b.A.length ≤ 144 := Nat.le_trans (Nat.mul_le_mul hza hzb) (by omega)
  have HPR := Lib.hid hpr; clear hpr
  have GA := Lib.hid ga; clear ga
  have GB := Lib.hid gb; clear gb
  have RA := Lib.hid ra; clear ra
  have RB := Lib.hid rb; clear rb
  have Ha := Lib.hid ((HasD.new ha an aa).alloc (.cells #[.int .i64 b.K, .int .i64 b.S, .slice Bn b.N.length bn, .slice Ba b.A.length ba] 25))
  have Hb : Hid (HasD ((w.alloc (.cells #[.int .i64 a.K, .int .i64 a.S, .slice An a.N.length an, .slice Aa a.A.length aa] 25)).alloc (.cells #[.int .i64 b.K, .int .i64 b.S, .slice Bn b.N.length bn, .slice Ba b.A.length ba] 25)) (w.heap.size + 1) b Bn bn Ba ba) := HasD.newAt (hb.alloc _) bn ba (by simp)
  have HW := Lib.hid (bel_alloc (bel_new w (.cells #[.int .i64 a.K, .int .i64 a.S, .slice An a.N.length an, .slice Aa a.A.length aa] 25)) (.cells #[.int .i64 b.K, .int .i64 b.S, .slice Bn b.N.length bn, .slice Ba b.A.length ba] 25))
  clear ha hb
  go_enter Try.func7, Try.ntmps7
  go_wp2_with fail
  refine (alive_c _).mono ?_
  rintro e w1 ⟨rfl, hb⟩
  replace Ha := Lib.hid (Ha.out.up hb)
  replace Hb := Lib.hid (Hb.out.up hb)
  replace HW := Lib.hid (bel_step HW.out hb)
  clear hb
  obtain ⟨a0, a1, a2, a3⟩ := Ha.out.cells
  have lta := Ha.out.lt
  obtain ⟨b0, b1, b2, b3⟩ := Hb.out.cells
  have ltb := Hb.out.lt
  go_wp2_with fail
  refine (great_c a An Aa an aa _).mono ?_
  rintro e w2 ⟨rfl, hb⟩
  replace Ha := Lib.hid (Ha.out.up hb)
  replace Hb := Lib.hid (Hb.out.up hb)
  replace HW := Lib.hid (bel_step HW.out hb)
  clear a0 a1 a2 a3 lta
  clear b0 b1 b2 b3 ltb
  clear hb
  obtain ⟨a0, a1, a2, a3⟩ := Ha.out.cells
  have lta := Ha.out.lt
  obtain ⟨b0, b1, b2, b3⟩ := Hb.out.cells
  have ltb := Hb.out.lt
  rw [GA.out]
  go_wp2_with fail
  refine (great_c b Bn Ba bn ba _).mono ?_
  rintro e w3 ⟨rfl, hb⟩
  replace Ha := Lib.hid (Ha.out.up hb)
  replace Hb := Lib.hid (Hb.out.up hb)
  replace HW := Lib.hid (bel_step HW.out hb)
  clear a0 a1 a2 a3 lta
  clear b0 b1 b2 b3 ltb
  clear hb
  obtain ⟨a0, a1, a2, a3⟩ := Ha.out.cells
  have lta := Ha.out.lt
  obtain ⟨b0, b1, b2, b3⟩ := Hb.out.cells
  have ltb := Hb.out.lt
  rw [GB.out]
  go_wp2_with fail
  refine (both_c Ha.out.din Hb.out.din an aa bn ba (.inl (by omega))).mono ?_
  rintro e w4 ⟨x, er, hq, v, rfl, hx, hb⟩
  replace Ha := Lib.hid (Ha.out.up hb)
  replace Hb := Lib.hid (Hb.out.up hb)
  replace HW := Lib.hid (bel_step HW.out hb)
  clear a0 a1 a2 a3 lta
  clear b0 b1 b2 b3 ltb
  clear hb
  obtain ⟨rfl, rfl⟩ := hq.2 HPR.out
  obtain ⟨Xn, xxn, Xa, xxa, rfl, dx⟩ := hx.din (by simp [zeroD])
  clear hx hq
  obtain ⟨a0, a1, a2, a3⟩ := Ha.out.cells
  have lta := Ha.out.lt
  obtain ⟨b0, b1, b2, b3⟩ := Hb.out.cells
  have ltb := Hb.out.lt
  have Hx := Lib.hid (HasD.new dx xxn xxa)
  replace Ha := Lib.hid (Ha.out.alloc (.cells #[.int .i64 zeroD.K, .int .i64 zeroD.S, .slice Xn zeroD.N.length xxn, .slice Xa zeroD.A.length xxa] 25))
  replace Hb := Lib.hid (Hb.out.alloc (.cells #[.int .i64 zeroD.K, .int .i64 zeroD.S, .slice Xn zeroD.N.length xxn, .slice Xa zeroD.A.length xxa] 25))
  replace HW := Lib.hid (bel_alloc HW.out (.cells #[.int .i64 zeroD.K, .int .i64 zeroD.S, .slice Xn zeroD.N.length xxn, .slice Xa zeroD.A.length xxa] 25))
  clear dx
  go_wp2_with fail
  refine (either_c Ha.out.din Hb.out.din an aa bn ba (.inl (by omega))).mono ?_
  rintro e w5 ⟨y, er, hq, v, rfl, hx, hb⟩
  replace Ha := Lib.hid (Ha.out.up hb)
  replace Hb := Lib.hid (Hb.out.up hb)
  replace Hx := Lib.hid (Hx.out.up hb)
  replace HW := Lib.hid (bel_step HW.out hb)
  clear a0 a1 a2 a3 lta
  clear b0 b1 b2 b3 ltb
  clear hb
  obtain ⟨rfl, rfl⟩ := hq.2 HPR.out
  obtain ⟨Yn, yyn, Ya, yya, rfl, dx⟩ := hx.din (by simp [zeroD])
  clear hx hq
  obtain ⟨a0, a1, a2, a3⟩ := Ha.out.cells
  have lta := Ha.out.lt
  obtain ⟨b0, b1, b2, b3⟩ := Hb.out.cells
  have ltb := Hb.out.lt
  obtain ⟨x0, x1, x2, x3⟩ := Hx.out.cells
  have ltx := Hx.out.lt
  have Hy := Lib.hid (HasD.new dx yyn yya)
  replace Ha := Lib.hid (Ha.out.alloc (.cells #[.int .i64 zeroD.K, .int .i64 zeroD.S, .slice Yn zeroD.N.length yyn, .slice Ya zeroD.A.length yya] 25))
  replace Hb := Lib.hid (Hb.out.alloc (.cells #[.int .i64 zeroD.K, .int .i64 zeroD.S, .slice Yn zeroD.N.length yyn, .slice Ya zeroD.A.length yya] 25))
  replace Hx := Lib.hid (Hx.out.alloc (.cells #[.int .i64 zeroD.K, .int .i64 zeroD.S, .slice Yn zeroD.N.length yyn, .slice Ya zeroD.A.length yya] 25))
  replace HW := Lib.hid (bel_alloc HW.out (.cells #[.int .i64 zeroD.K, .int .i64 zeroD.S, .slice Yn zeroD.N.length yyn, .slice Ya zeroD.A.length yya] 25))
  clear dx
  go_wp2_with fail
  refine (less_c Ha.out.din Hb.out.din an aa bn ba (.inl (by omega))).mono ?_
  rintro e w6 ⟨z, er, hq, v, rfl, hx, hb⟩
  replace Ha := Lib.hid (Ha.out.up hb)
  replace Hb := Lib.hid (Hb.out.up hb)
  replace Hx := Lib.hid (Hx.out.up hb)
  replace Hy := Lib.hid (Hy.out.up hb)
  replace HW := Lib.hid (bel_step HW.out hb)
  clear a0 a1 a2 a3 lta
  clear b0 b1 b2 b3 ltb
  clear x0 x1 x2 x3 ltx
  clear hb
  obtain ⟨rfl, rfl⟩ := hq.2 HPR.out
  obtain ⟨Zn, zzn, Za, zza, rfl, dx⟩ := hx.din (by simp [zeroD])
  clear hx hq
  obtain ⟨a0, a1, a2, a3⟩ := Ha.out.cells
  have lta := Ha.out.lt
  obtain ⟨b0, b1, b2, b3⟩ := Hb.out.cells
  have ltb := Hb.out.lt
  obtain ⟨x0, x1, x2, x3⟩ := Hx.out.cells
  have ltx := Hx.out.lt
  obtain ⟨y0, y1, y2, y3⟩ := Hy.out.cells
  have lty := Hy.out.lt
  have Hz := Lib.hid (HasD.new dx zzn zza)
  replace Ha := Lib.hid (Ha.out.alloc (.cells #[.int .i64 zeroD.K, .int .i64 zeroD.S, .slice Zn zeroD.N.length zzn, .slice Za zeroD.A.length zza] 25))
  replace Hb := Lib.hid (Hb.out.alloc (.cells #[.int .i64 zeroD.K, .int .i64 zeroD.S, .slice Zn zeroD.N.length zzn, .slice Za zeroD.A.length zza] 25))
  replace Hx := Lib.hid (Hx.out.alloc (.cells #[.int .i64 zeroD.K, .int .i64 zeroD.S, .slice Zn zeroD.N.length zzn, .slice Za zeroD.A.length zza] 25))
  replace Hy := Lib.hid (Hy.out.alloc (.cells #[.int .i64 zeroD.K, .int .i64 zeroD.S, .slice Zn zeroD.N.length zzn, .slice Za zeroD.A.length zza] 25))
  replace HW := Lib.hid (bel_alloc HW.out (.cells #[.int .i64 zeroD.K, .int .i64 zeroD.S, .slice Zn zeroD.N.length zzn, .slice Za zeroD.A.length zza] 25))
  clear dx
  go_wp2_with fail
  refine (refRight_c Ha.out.din an aa).mono ?_
  rintro e w7 ⟨rfl, hb⟩
  replace Ha := Lib.hid (Ha.out.up hb)
  replace Hb := Lib.hid (Hb.out.up hb)
  replace Hx := Lib.hid (Hx.out.up hb)
  replace Hy := Lib.hid (Hy.out.up hb)
  replace Hz := Lib.hid (Hz.out.up hb)
  replace HW := Lib.hid (bel_step HW.out hb)
  clear a0 a1 a2 a3 lta
  clear b0 b1 b2 b3 ltb
  clear x0 x1 x2 x3 ltx
  clear y0 y1 y2 y3 lty
  clear hb
  obtain ⟨a0, a1, a2, a3⟩ := Ha.out.cells
  have lta := Ha.out.lt
  obtain ⟨b0, b1, b2, b3⟩ := Hb.out.cells
  have ltb := Hb.out.lt
  obtain ⟨x0, x1, x2, x3⟩ := Hx.out.cells
  have ltx := Hx.out.lt
  obtain ⟨y0, y1, y2, y3⟩ := Hy.out.cells
  have lty := Hy.out.lt
  obtain ⟨z0, z1, z2, z3⟩ := Hz.out.cells
  have ltz := Hz.out.lt
  rw [RA.out]
  go_wp2_with fail
  refine (refRight_c Hb.out.din bn ba).mono ?_
  rintro e w8 ⟨rfl, hb⟩
  replace Ha := Lib.hid (Ha.out.up hb)
  replace Hb := Lib.hid (Hb.out.up hb)
  replace Hx := Lib.hid (Hx.out.up hb)
  replace Hy := Lib.hid (Hy.out.up hb)
  replace Hz := Lib.hid (Hz.out.up hb)
  replace HW := Lib.hid (bel_step HW.out hb)
  clear a0 a1 a2 a3 lta
  clear b0 b1 b2 b3 ltb
  clear x0 x1 x2 x3 ltx
  clear y0 y1 y2 y3 lty
  clear z0 z1 z2 z3 ltz
  clear hb
  obtain ⟨a0, a1, a2, a3⟩ := Ha.out.cells
  have lta := Ha.out.lt
  obtain ⟨b0, b1, b2, b3⟩ := Hb.out.cells
  have ltb := Hb.out.lt
  obtain ⟨x0, x1, x2, x3⟩ := Hx.out.cells
  have ltx := Hx.out.lt
  obtain ⟨y0, y1, y2, y3⟩ := Hy.out.cells
  have lty := Hy.out.lt
  obtain ⟨z0, z1, z2, z3⟩ := Hz.out.cells
  have ltz := Hz.out.lt
  rw [RB.out]
  go_wp2_with fail
  refine (zero_c zeroD Xn Xa xxn xxa _).mono ?_
  rintro e w9 ⟨rfl, hb⟩
  replace Ha := Lib.hid (Ha.out.up hb)
  replace Hb := Lib.hid (Hb.out.up hb)
  replace Hx := Lib.hid (Hx.out.up hb)
  replace Hy := Lib.hid (Hy.out.up hb)
  replace Hz := Lib.hid (Hz.out.up hb)
  replace HW := Lib.hid (bel_step HW.out hb)
  clear a0 a1 a2 a3 lta
  clear b0 b1 b2 b3 ltb
  clear x0 x1 x2 x3 ltx
  clear y0 y1 y2 y3 lty
  clear z0 z1 z2 z3 ltz
  clear hb
  obtain ⟨a0, a1, a2, a3⟩ := Ha.out.cells
  have lta := Ha.out.lt
  obtain ⟨b0, b1, b2, b3⟩ := Hb.out.cells
  have ltb := Hb.out.lt
  obtain ⟨x0, x1, x2, x3⟩ := Hx.out.cells
  have ltx := Hx.out.lt
  obtain ⟨y0, y1, y2, y3⟩ := Hy.out.cells
  have lty := Hy.out.lt
  obtain ⟨z0, z1, z2, z3⟩ := Hz.out.cells
  have ltz := Hz.out.lt
  rw [zeroD_zero]
  go_wp2_with fail
  refine (zero_c zeroD Yn Ya yyn yya _).mono ?_
  rintro e w10 ⟨rfl, hb⟩
  replace Ha := Lib.hid (Ha.out.up hb)
  replace Hb := Lib.hid (Hb.out.up hb)
  replace Hx := Lib.hid (Hx.out.up hb)
  replace Hy := Lib.hid (Hy.out.up hb)
  replace Hz := Lib.hid (Hz.out.up hb)
  replace HW := Lib.hid (bel_step HW.out hb)
  clear a0 a1 a2 a3 lta
  clear b0 b1 b2 b3 ltb
  clear x0 x1 x2 x3 ltx
  clear y0 y1 y2 y3 lty
  clear z0 z1 z2 z3 ltz
  clear hb
  obtain ⟨a0, a1, a2, a3⟩ := Ha.out.cells
  have lta := Ha.out.lt
  obtain ⟨b0, b1, b2, b3⟩ := Hb.out.cells
  have ltb := Hb.out.lt
  obtain ⟨x0, x1, x2, x3⟩ := Hx.out.cells
  have ltx := Hx.out.lt
  obtain ⟨y0, y1, y2, y3⟩ := Hy.out.cells
  have lty := Hy.out.lt
  obtain ⟨z0, z1, z2, z3⟩ := Hz.out.cells
  have ltz := Hz.out.lt
  rw [zeroD_zero]
  go_wp2_with fail
  refine (zero_c zeroD Zn Za zzn zza _).mono ?_
  rintro e w11 ⟨rfl, hb⟩
  replace Ha := Lib.hid (Ha.out.up hb)
  replace Hb := Lib.hid (Hb.out.up hb)
  replace Hx := Lib.hid (Hx.out.up hb)
  replace Hy := Lib.hid (Hy.out.up hb)
  replace Hz := Lib.hid (Hz.out.up hb)
  replace HW := Lib.hid (bel_step HW.out hb)
  clear a0 a1 a2 a3 lta
  clear b0 b1 b2 b3 ltb
  clear x0 x1 x2 x3 ltx
  clear y0 y1 y2 y3 lty
  clear z0 z1 z2 z3 ltz
  clear hb
  obtain ⟨a0, a1, a2, a3⟩ := Ha.out.cells
  have lta := Ha.out.lt
  obtain ⟨b0, b1, b2, b3⟩ := Hb.out.cells
  have ltb := Hb.out.lt
  obtain ⟨x0, x1, x2, x3⟩ := Hx.out.cells
  have ltx := Hx.out.lt
  obtain ⟨y0, y1, y2, y3⟩ := Hy.out.cells
  have lty := Hy.out.lt
  obtain ⟨z0, z1, z2, z3⟩ := Hz.out.cells
  have ltz := Hz.out.lt
  rw [zeroD_zero]
  go_wp2_with fail
  go_ret
  exact ⟨rfl, HW.out⟩
set_option maxHeartbeats 16000000 in
set_option maxRecDepth 100000 in
theorem dfaBoth_main (a b : D) (An Aa Bn Ba : Option Addr) (an aa bn ba : Nat) (w : World) (ha : DIn w a An Aa) (hb : DIn w b Bn Ba) (ga : a.great = false) (gb : b.great = false) (hpr : prodOk a b = true) (ra : a.right = true) (rb : b.right = true) (hk : (a.K != b.K) = false) :
    Calls Try.prog 7 #[dfaV a.K a.S An a.N.length an Aa a.A.length aa, dfaV b.K b.S Bn b.N.length bn Ba b.A.length ba] w (Ret (.bool true) w) := by
  obtain ⟨hza, _, _⟩ := D.great_no ga
  obtain ⟨hzb, _, _⟩ := D.great_no gb
  have hab : a.A.length * b.A.length ≤ 144 := Nat.le_trans (Nat.mul_le_mul hza hzb) (by omega)
  have hok := D.right_true.1 ra
  have hbok := D.right_true.1 rb
  have hK : a.K = b.K := by simpa using hk
  have HPR := Lib.hid hpr; have HOK := Lib.hid hok; have HBK := Lib.hid hbok; have HKK := Lib.hid hK
  clear hpr hok hbok hK
  have GA := Lib.hid ga; clear ga
  have GB := Lib.hid gb; clear gb
  have RA := Lib.hid ra; clear ra
  have RB := Lib.hid rb; clear rb
  have Ha := Lib.hid ((HasD.new ha an aa).alloc (.cells #[.int .i64 b.K, .int .i64 b.S, .slice Bn b.N.length bn, .slice Ba b.A.length ba] 25))
  have Hb : Hid (HasD ((w.alloc (.cells #[.int .i64 a.K, .int .i64 a.S, .slice An a.N.length an, .slice Aa a.A.length aa] 25)).alloc (.cells #[.int .i64 b.K, .int .i64 b.S, .slice Bn b.N.length bn, .slice Ba b.A.length ba] 25)) (w.heap.size + 1) b Bn bn Ba ba) := HasD.newAt (hb.alloc _) bn ba (by simp)
  have HW := Lib.hid (bel_alloc (bel_new w (.cells #[.int .i64 a.K, .int .i64 a.S, .slice An a.N.length an, .slice Aa a.A.length aa] 25)) (.cells #[.int .i64 b.K, .int .i64 b.S, .slice Bn b.N.length bn, .slice Ba b.A.length ba] 25))
  clear ha hb
  go_enter Try.func7, Try.ntmps7
  go_wp2_with fail
  refine (alive_c _).mono ?_
  rintro e w1 ⟨rfl, hb⟩
  replace Ha := Lib.hid (Ha.out.up hb)
  replace Hb := Lib.hid (Hb.out.up hb)
  replace HW := Lib.hid (bel_step HW.out hb)
  clear hb
  obtain ⟨a0, a1, a2, a3⟩ := Ha.out.cells
  have lta := Ha.out.lt
  obtain ⟨b0, b1, b2, b3⟩ := Hb.out.cells
  have ltb := Hb.out.lt
  go_wp2_with fail
  refine (great_c a An Aa an aa _).mono ?_
  rintro e w2 ⟨rfl, hb⟩
  replace Ha := Lib.hid (Ha.out.up hb)
  replace Hb := Lib.hid (Hb.out.up hb)
  replace HW := Lib.hid (bel_step HW.out hb)
  clear a0 a1 a2 a3 lta
  clear b0 b1 b2 b3 ltb
  clear hb
  obtain ⟨a0, a1, a2, a3⟩ := Ha.out.cells
  have lta := Ha.out.lt
  obtain ⟨b0, b1, b2, b3⟩ := Hb.out.cells
  have ltb := Hb.out.lt
  rw [GA.out]
  go_wp2_with fail
  refine (great_c b Bn Ba bn ba _).mono ?_
  rintro e w3 ⟨rfl, hb⟩
  replace Ha := Lib.hid (Ha.out.up hb)
  replace Hb := Lib.hid (Hb.out.up hb)
  replace HW := Lib.hid (bel_step HW.out hb)
  clear a0 a1 a2 a3 lta
  clear b0 b1 b2 b3 ltb
  clear hb
  obtain ⟨a0, a1, a2, a3⟩ := Ha.out.cells
  have lta := Ha.out.lt
  obtain ⟨b0, b1, b2, b3⟩ := Hb.out.cells
  have ltb := Hb.out.lt
  rw [GB.out]
  go_wp2_with fail
  refine (both_c Ha.out.din Hb.out.din an aa bn ba (.inl (by omega))).mono ?_
  rintro e w4 ⟨x, er, hq, v, rfl, hx, hb⟩
  replace Ha := Lib.hid (Ha.out.up hb)
  replace Hb := Lib.hid (Hb.out.up hb)
  replace HW := Lib.hid (bel_step HW.out hb)
  clear a0 a1 a2 a3 lta
  clear b0 b1 b2 b3 ltb
  clear hb
  obtain ⟨rfl, LX, hp⟩ := hq.1 HPR.out
  have PX := Lib.hid hp
  have hpo := prod_ok hp HOK.out HBK.out HKK.out (by omega)
  obtain ⟨Xn, xxn, Xa, xxa, rfl, dx⟩ := hx.din hpo.1.sizes
  clear hx hq hp hpo
  obtain ⟨a0, a1, a2, a3⟩ := Ha.out.cells
  have lta := Ha.out.lt
  obtain ⟨b0, b1, b2, b3⟩ := Hb.out.cells
  have ltb := Hb.out.lt
  have Hx := Lib.hid (HasD.new dx xxn xxa)
  replace Ha := Lib.hid (Ha.out.alloc (.cells #[.int .i64 x.K, .int .i64 x.S, .slice Xn x.N.length xxn, .slice Xa x.A.length xxa] 25))
  replace Hb := Lib.hid (Hb.out.alloc (.cells #[.int .i64 x.K, .int .i64 x.S, .slice Xn x.N.length xxn, .slice Xa x.A.length xxa] 25))
  replace HW := Lib.hid (bel_alloc HW.out (.cells #[.int .i64 x.K, .int .i64 x.S, .slice Xn x.N.length xxn, .slice Xa x.A.length xxa] 25))
  clear dx
  go_wp2_with fail
  refine (either_c Ha.out.din Hb.out.din an aa bn ba (.inl (by omega))).mono ?_
  rintro e w5 ⟨y, er, hq, v, rfl, hx, hb⟩
  replace Ha := Lib.hid (Ha.out.up hb)
  replace Hb := Lib.hid (Hb.out.up hb)
  replace Hx := Lib.hid (Hx.out.up hb)
  replace HW := Lib.hid (bel_step HW.out hb)
  clear a0 a1 a2 a3 lta
  clear b0 b1 b2 b3 ltb
  clear hb
  obtain ⟨rfl, LY, hp⟩ := hq.1 HPR.out
  have PY := Lib.hid hp
  have hpo := prod_ok hp HOK.out HBK.out HKK.out (by omega)
  obtain ⟨Yn, yyn, Ya, yya, rfl, dx⟩ := hx.din hpo.1.sizes
  clear hx hq hp hpo
  obtain ⟨a0, a1, a2, a3⟩ := Ha.out.cells
  have lta := Ha.out.lt
  obtain ⟨b0, b1, b2, b3⟩ := Hb.out.cells
  have ltb := Hb.out.lt
  obtain ⟨x0, x1, x2, x3⟩ := Hx.out.cells
  have ltx := Hx.out.lt
  have Hy := Lib.hid (HasD.new dx yyn yya)
  replace Ha := Lib.hid (Ha.out.alloc (.cells #[.int .i64 y.K, .int .i64 y.S, .slice Yn y.N.length yyn, .slice Ya y.A.length yya] 25))
  replace Hb := Lib.hid (Hb.out.alloc (.cells #[.int .i64 y.K, .int .i64 y.S, .slice Yn y.N.length yyn, .slice Ya y.A.length yya] 25))
  replace Hx := Lib.hid (Hx.out.alloc (.cells #[.int .i64 y.K, .int .i64 y.S, .slice Yn y.N.length yyn, .slice Ya y.A.length yya] 25))
  replace HW := Lib.hid (bel_alloc HW.out (.cells #[.int .i64 y.K, .int .i64 y.S, .slice Yn y.N.length yyn, .slice Ya y.A.length yya] 25))
  clear dx
  go_wp2_with fail
  refine (less_c Ha.out.din Hb.out.din an aa bn ba (.inl (by omega))).mono ?_
  rintro e w6 ⟨z, er, hq, v, rfl, hx, hb⟩
  replace Ha := Lib.hid (Ha.out.up hb)
  replace Hb := Lib.hid (Hb.out.up hb)
  replace Hx := Lib.hid (Hx.out.up hb)
  replace Hy := Lib.hid (Hy.out.up hb)
  replace HW := Lib.hid (bel_step HW.out hb)
  clear a0 a1 a2 a3 lta
  clear b0 b1 b2 b3 ltb
  clear x0 x1 x2 x3 ltx
  clear hb
  obtain ⟨rfl, LZ, hp⟩ := hq.1 HPR.out
  have PZ := Lib.hid hp
  have hpo := prod_ok hp HOK.out HBK.out HKK.out (by omega)
  obtain ⟨Zn, zzn, Za, zza, rfl, dx⟩ := hx.din hpo.1.sizes
  clear hx hq hp hpo
  obtain ⟨a0, a1, a2, a3⟩ := Ha.out.cells
  have lta := Ha.out.lt
  obtain ⟨b0, b1, b2, b3⟩ := Hb.out.cells
  have ltb := Hb.out.lt
  obtain ⟨x0, x1, x2, x3⟩ := Hx.out.cells
  have ltx := Hx.out.lt
  obtain ⟨y0, y1, y2, y3⟩ := Hy.out.cells
  have lty := Hy.out.lt
  have Hz := Lib.hid (HasD.new dx zzn zza)
  replace Ha := Lib.hid (Ha.out.alloc (.cells #[.int .i64 z.K, .int .i64 z.S, .slice Zn z.N.length zzn, .slice Za z.A.length zza] 25))
  replace Hb := Lib.hid (Hb.out.alloc (.cells #[.int .i64 z.K, .int .i64 z.S, .slice Zn z.N.length zzn, .slice Za z.A.length zza] 25))
  replace Hx := Lib.hid (Hx.out.alloc (.cells #[.int .i64 z.K, .int .i64 z.S, .slice Zn z.N.length zzn, .slice Za z.A.length zza] 25))
  replace Hy := Lib.hid (Hy.out.alloc (.cells #[.int .i64 z.K, .int .i64 z.S, .slice Zn z.N.length zzn, .slice Za z.A.length zza] 25))
  replace HW := Lib.hid (bel_alloc HW.out (.cells #[.int .i64 z.K, .int .i64 z.S, .slice Zn z.N.length zzn, .slice Za z.A.length zza] 25))
  clear dx
  go_wp2_with fail
  refine (refRight_c Ha.out.din an aa).mono ?_
  rintro e w7 ⟨rfl, hb⟩
  replace Ha := Lib.hid (Ha.out.up hb)
  replace Hb := Lib.hid (Hb.out.up hb)
  replace Hx := Lib.hid (Hx.out.up hb)
  replace Hy := Lib.hid (Hy.out.up hb)
  replace Hz := Lib.hid (Hz.out.up hb)
  replace HW := Lib.hid (bel_step HW.out hb)
  clear a0 a1 a2 a3 lta
  clear b0 b1 b2 b3 ltb
  clear x0 x1 x2 x3 ltx
  clear y0 y1 y2 y3 lty
  clear hb
  obtain ⟨a0, a1, a2, a3⟩ := Ha.out.cells
  have lta := Ha.out.lt
  obtain ⟨b0, b1, b2, b3⟩ := Hb.out.cells
  have ltb := Hb.out.lt
  obtain ⟨x0, x1, x2, x3⟩ := Hx.out.cells
  have ltx := Hx.out.lt
  obtain ⟨y0, y1, y2, y3⟩ := Hy.out.cells
  have lty := Hy.out.lt
  obtain ⟨z0, z1, z2, z3⟩ := Hz.out.cells
  have ltz := Hz.out.lt
  rw [RA.out]
  go_wp2_with fail
  refine (refRight_c Hb.out.din bn ba).mono ?_
  rintro e w8 ⟨rfl, hb⟩
  replace Ha := Lib.hid (Ha.out.up hb)
  replace Hb := Lib.hid (Hb.out.up hb)
  replace Hx := Lib.hid (Hx.out.up hb)
  replace Hy := Lib.hid (Hy.out.up hb)
  replace Hz := Lib.hid (Hz.out.up hb)
  replace HW := Lib.hid (bel_step HW.out hb)
  clear a0 a1 a2 a3 lta
  clear b0 b1 b2 b3 ltb
  clear x0 x1 x2 x3 ltx
  clear y0 y1 y2 y3 lty
  clear z0 z1 z2 z3 ltz
  clear hb
  obtain ⟨a0, a1, a2, a3⟩ := Ha.out.cells
  have lta := Ha.out.lt
  obtain ⟨b0, b1, b2, b3⟩ := Hb.out.cells
  have ltb := Hb.out.lt
  obtain ⟨x0, x1, x2, x3⟩ := Hx.out.cells
  have ltx := Hx.out.lt
  obtain ⟨y0, y1, y2, y3⟩ := Hy.out.cells
  have lty := Hy.out.lt
  obtain ⟨z0, z1, z2, z3⟩ := Hz.out.cells
  have ltz := Hz.out.lt
  rw [RB.out]
  go_wp2_with fail
  refine (made_any x a b Xn Xa An Aa Bn Ba xxn xxa an aa bn ba 43 _ _ LX want43 Try.enters43 Hx.out.din Ha.out.din Hb.out.din HOK.out HBK.out HKK.out hab PX.out).mono ?_
  rintro e w9 ⟨rfl, hb⟩
  replace Ha := Lib.hid (Ha.out.up hb)
  replace Hb := Lib.hid (Hb.out.up hb)
  replace Hx := Lib.hid (Hx.out.up hb)
  replace Hy := Lib.hid (Hy.out.up hb)
  replace Hz := Lib.hid (Hz.out.up hb)
  replace HW := Lib.hid (bel_step HW.out hb)
  clear a0 a1 a2 a3 lta
  clear b0 b1 b2 b3 ltb
  clear x0 x1 x2 x3 ltx
  clear y0 y1 y2 y3 lty
  clear z0 z1 z2 z3 ltz
  clear hb
  obtain ⟨a0, a1, a2, a3⟩ := Ha.out.cells
  have lta := Ha.out.lt
  obtain ⟨b0, b1, b2, b3⟩ := Hb.out.cells
  have ltb := Hb.out.lt
  obtain ⟨x0, x1, x2, x3⟩ := Hx.out.cells
  have ltx := Hx.out.lt
  obtain ⟨y0, y1, y2, y3⟩ := Hy.out.cells
  have lty := Hy.out.lt
  obtain ⟨z0, z1, z2, z3⟩ := Hz.out.cells
  have ltz := Hz.out.lt
  go_wp2_with fail
  refine (made_any y a b Yn Ya An Aa Bn Ba yyn yya an aa bn ba 44 _ _ LY want44 Try.enters44 Hy.out.din Ha.out.din Hb.out.din HOK.out HBK.out HKK.out hab PY.out).mono ?_
  rintro e w10 ⟨rfl, hb⟩
  replace Ha := Lib.hid (Ha.out.up hb)
  replace Hb := Lib.hid (Hb.out.up hb)
  replace Hx := Lib.hid (Hx.out.up hb)
  replace Hy := Lib.hid (Hy.out.up hb)
  replace Hz := Lib.hid (Hz.out.up hb)
  replace HW := Lib.hid (bel_step HW.out hb)
  clear a0 a1 a2 a3 lta
  clear b0 b1 b2 b3 ltb
  clear x0 x1 x2 x3 ltx
  clear y0 y1 y2 y3 lty
  clear z0 z1 z2 z3 ltz
  clear hb
  obtain ⟨a0, a1, a2, a3⟩ := Ha.out.cells
  have lta := Ha.out.lt
  obtain ⟨b0, b1, b2, b3⟩ := Hb.out.cells
  have ltb := Hb.out.lt
  obtain ⟨x0, x1, x2, x3⟩ := Hx.out.cells
  have ltx := Hx.out.lt
  obtain ⟨y0, y1, y2, y3⟩ := Hy.out.cells
  have lty := Hy.out.lt
  obtain ⟨z0, z1, z2, z3⟩ := Hz.out.cells
  have ltz := Hz.out.lt
  go_wp2_with fail
  refine (made_any z a b Zn Za An Aa Bn Ba zzn zza an aa bn ba 45 _ _ LZ want45 Try.enters45 Hz.out.din Ha.out.din Hb.out.din HOK.out HBK.out HKK.out hab PZ.out).mono ?_
  rintro e w11 ⟨rfl, hb⟩
  replace Ha := Lib.hid (Ha.out.up hb)
  replace Hb := Lib.hid (Hb.out.up hb)
  replace Hx := Lib.hid (Hx.out.up hb)
  replace Hy := Lib.hid (Hy.out.up hb)
  replace Hz := Lib.hid (Hz.out.up hb)
  replace HW := Lib.hid (bel_step HW.out hb)
  clear a0 a1 a2 a3 lta
  clear b0 b1 b2 b3 ltb
  clear x0 x1 x2 x3 ltx
  clear y0 y1 y2 y3 lty
  clear z0 z1 z2 z3 ltz
  clear hb
  obtain ⟨a0, a1, a2, a3⟩ := Ha.out.cells
  have lta := Ha.out.lt
  obtain ⟨b0, b1, b2, b3⟩ := Hb.out.cells
  have ltb := Hb.out.lt
  obtain ⟨x0, x1, x2, x3⟩ := Hx.out.cells
  have ltx := Hx.out.lt
  obtain ⟨y0, y1, y2, y3⟩ := Hy.out.cells
  have lty := Hy.out.lt
  obtain ⟨z0, z1, z2, z3⟩ := Hz.out.cells
  have ltz := Hz.out.lt
  go_wp2_with fail
  go_ret
  exact ⟨rfl, HW.out⟩
theorem dfaBoth_law (a b : D) (An Aa Bn Ba : Option Addr) (an aa bn ba : Nat) (w : World) (ha : DIn w a An Aa) (hb : DIn w b Bn Ba) :
    Calls Try.prog 7 #[dfaV a.K a.S An a.N.length an Aa a.A.length aa, dfaV b.K b.S Bn b.N.length bn Ba b.A.length ba] w (Ret (.bool true) w) := by
  rcases ga : a.great with _ | _
  · rcases gb : b.great with _ | _
    · rcases ra : a.right with _ | _
      · exact dfaBoth_ra a b An Aa Bn Ba an aa bn ba w ha hb ga gb (by unfold prodOk; rw [ra]; rfl) ra
      · rcases rb : b.right with _ | _
        · exact dfaBoth_rb a b An Aa Bn Ba an aa bn ba w ha hb ga gb (by unfold prodOk; rw [ra, rb]; rfl) ra rb
        · rcases hk : a.K != b.K with _ | _
          · exact dfaBoth_main a b An Aa Bn Ba an aa bn ba w ha hb ga gb (by unfold prodOk; rw [ra, rb]; simpa using hk) ra rb hk
          · exact dfaBoth_kk a b An Aa Bn Ba an aa bn ba w ha hb ga gb (by unfold prodOk; rw [ra, rb]; simpa using hk) ra rb hk
    · exact dfaBoth_gb a b An Aa Bn Ba an aa bn ba w ha hb ga gb
  · exact dfaBoth_ga a b An Aa Bn Ba an aa bn ba w ha hb ga
end Go.Proofs.Ytmpcoclgcldclaa
