/- The walk of the law DfaLaws. -/
import Derived.Test.YtmpcoclgcldclaaY3
import Derived.Test.YtmpcoclgcldclaaL5
namespace Go.Proofs.Ytmpcoclgcldclaa
open Go.RowKit
attribute [local go_sem ↓] Go.wp_at_zero Go.wp_at_succ

theorem tells_syms {d : D} {ws : List Int} (h : d.tells ws = true) : symsB d.K ws = true := by
  unfold D.tells at h
  simp only [Bool.and_eq_true] at h
  exact h.2.1
theorem laws_plain {a b out both alone all : D} {L1 L2 L3 L4 : List (Int × Int)} (ha : a.Ok) (hb : b.Ok) (hK : a.K = b.K) (h1 : ProdOf (fun x y => x || y) (notD a) (notD b) out L1) (h2 : ProdOf (fun x y => x && y) b a both L2)
    (h3 : ProdOf (fun x y => x && !y) a b alone L3) (h4 : ProdOf (fun x y => x || y) alone both all L4) (hs : a.A.length * b.A.length ≤ 144) (ws : List Int) :
    (notD out).tells ws = both.tells ws ∧ all.tells ws = a.tells ws := by
  have hc := notD_ok ha
  have hd := notD_ok hb
  have la : (notD a).A.length = a.A.length := by simp [notD]
  have lb : (notD b).A.length = b.A.length := by simp [notD]
  have o1 := prod_ok h1 hc hd hK (by rw [la, lb]; omega)
  have o2 := prod_ok h2 hb ha hK.symm (by rw [Nat.mul_comm]; omega)
  have o3 := prod_ok h3 ha hb hK (by omega)
  rw [la, lb] at o1
  have hba : b.A.length * a.A.length ≤ 144 := by rw [Nat.mul_comm]; exact hs
  have hk34 : alone.K = both.K := by rw [o3.2.2, o2.2.2, hK]
  have hm : alone.A.length * both.A.length ≤ 144 * 144 := Nat.mul_le_mul (Nat.le_trans o3.2.1 hs) (Nat.le_trans o2.2.1 hba)
  have l1 := h1.inv.len hc hd hK
  rw [la, lb] at l1
  have l2 := h2.inv.len hb ha hK.symm
  have l3 := h3.inv.len ha hb hK
  have l4 := h4.inv.len o3.1 o2.1 hk34
  have t1 := h1.tells hc hd hK (by omega) ws
  have t2 := h2.tells hb ha hK.symm (by omega) ws
  have t3 := h3.tells ha hb hK (by omega) ws
  have t4 := h4.tells o3.1 o2.1 hk34 (by omega) ws
  have t5 := notD_tells o1.1 ws
  have t6 := notD_tells ha ws
  have t7 := notD_tells hb ws
  have kk : (notD a).K = a.K := rfl
  rw [kk, t6, t7] at t1
  rw [← hK] at t1 t2
  rw [o3.2.2, t3, t2] at t4
  rw [o1.2.2, kk, t1] at t5
  rw [t5, t2, t4]
  have hx : a.tells ws = true → symsB a.K ws = true := tells_syms
  cases h : symsB a.K ws <;> cases h' : a.tells ws <;> cases b.tells ws <;> simp_all

set_option maxHeartbeats 4000000 in
set_option maxRecDepth 100000 in
theorem dfaLaws_ga (a b : D) (An Aa Bn Ba A : Option Addr) (an aa bn ba cw : Nat) (ws : List Int) (w : World) (ha : DIn w a An Aa) (hb : DIn w b Bn Ba) (hw : WIn w ws A) (ga : a.great = true) :
    Calls Try.prog 8 #[dfaV a.K a.S An a.N.length an Aa a.A.length aa, dfaV b.K b.S Bn b.N.length bn Ba b.A.length ba, .slice A ws.length cw] w (Ret (.bool true) w) := by
  have GA := Lib.hid ga; clear ga
  have Ha := Lib.hid ((HasD.new ha an aa).alloc (.cells #[.int .i64 b.K, .int .i64 b.S, .slice Bn b.N.length bn, .slice Ba b.A.length ba] 25))
  have Hb : Hid (HasD ((w.alloc (.cells #[.int .i64 a.K, .int .i64 a.S, .slice An a.N.length an, .slice Aa a.A.length aa] 25)).alloc (.cells #[.int .i64 b.K, .int .i64 b.S, .slice Bn b.N.length bn, .slice Ba b.A.length ba] 25)) (w.heap.size + 1) b Bn bn Ba ba) := HasD.newAt (hb.alloc _) bn ba (by simp)
  have Ww := Lib.hid ((hw.alloc (.cells #[.int .i64 a.K, .int .i64 a.S, .slice An a.N.length an, .slice Aa a.A.length aa] 25)).alloc (.cells #[.int .i64 b.K, .int .i64 b.S, .slice Bn b.N.length bn, .slice Ba b.A.length ba] 25))
  have HW := Lib.hid (bel_alloc (bel_new w (.cells #[.int .i64 a.K, .int .i64 a.S, .slice An a.N.length an, .slice Aa a.A.length aa] 25)) (.cells #[.int .i64 b.K, .int .i64 b.S, .slice Bn b.N.length bn, .slice Ba b.A.length ba] 25))
  clear ha hb hw
  go_enter Try.func8, Try.ntmps8
  go_wp2_with fail
  refine (alive_c _).mono ?_
  rintro e w1 ⟨rfl, hb⟩
  replace Ha := Lib.hid (Ha.out.up hb)
  replace Hb := Lib.hid (Hb.out.up hb)
  replace Ww := Lib.hid (Ww.out.up hb)
  replace HW := Lib.hid (bel_step HW.out hb)
  clear hb
  obtain ⟨a0, a1, a2, a3⟩ := Ha.out.cells
  have lta := Ha.out.lt
  obtain ⟨b0, b1, b2, b3⟩ := Hb.out.cells
  have ltb := Hb.out.lt
  go_wp2_with fail
  refine (great_c a An Aa an aa _).mono ?_
  rintro e w2 ⟨rfl, hb⟩
  replace Ha := Lib.hid (Ha.out.up hb)
  replace Hb := Lib.hid (Hb.out.up hb)
  replace Ww := Lib.hid (Ww.out.up hb)
  replace HW := Lib.hid (bel_step HW.out hb)
  clear a0 a1 a2 a3 lta
  clear b0 b1 b2 b3 ltb
  clear hb
  obtain ⟨a0, a1, a2, a3⟩ := Ha.out.cells
  have lta := Ha.out.lt
  obtain ⟨b0, b1, b2, b3⟩ := Hb.out.cells
  have ltb := Hb.out.lt
  rw [GA.out]
  go_wp2_with fail
  go_ret
  exact ⟨rfl, HW.out⟩
set_option maxHeartbeats 4000000 in
set_option maxRecDepth 100000 in
theorem dfaLaws_gb (a b : D) (An Aa Bn Ba A : Option Addr) (an aa bn ba cw : Nat) (ws : List Int) (w : World) (ha : DIn w a An Aa) (hb : DIn w b Bn Ba) (hw : WIn w ws A) (ga : a.great = false) (gb : b.great = true) :
    Calls Try.prog 8 #[dfaV a.K a.S An a.N.length an Aa a.A.length aa, dfaV b.K b.S Bn b.N.length bn Ba b.A.length ba, .slice A ws.length cw] w (Ret (.bool true) w) := by
  have GA := Lib.hid ga; clear ga
  have GB := Lib.hid gb; clear gb
  have Ha := Lib.hid ((HasD.new ha an aa).alloc (.cells #[.int .i64 b.K, .int .i64 b.S, .slice Bn b.N.length bn, .slice Ba b.A.length ba] 25))
  have Hb : Hid (HasD ((w.alloc (.cells #[.int .i64 a.K, .int .i64 a.S, .slice An a.N.length an, .slice Aa a.A.length aa] 25)).alloc (.cells #[.int .i64 b.K, .int .i64 b.S, .slice Bn b.N.length bn, .slice Ba b.A.length ba] 25)) (w.heap.size + 1) b Bn bn Ba ba) := HasD.newAt (hb.alloc _) bn ba (by simp)
  have Ww := Lib.hid ((hw.alloc (.cells #[.int .i64 a.K, .int .i64 a.S, .slice An a.N.length an, .slice Aa a.A.length aa] 25)).alloc (.cells #[.int .i64 b.K, .int .i64 b.S, .slice Bn b.N.length bn, .slice Ba b.A.length ba] 25))
  have HW := Lib.hid (bel_alloc (bel_new w (.cells #[.int .i64 a.K, .int .i64 a.S, .slice An a.N.length an, .slice Aa a.A.length aa] 25)) (.cells #[.int .i64 b.K, .int .i64 b.S, .slice Bn b.N.length bn, .slice Ba b.A.length ba] 25))
  clear ha hb hw
  go_enter Try.func8, Try.ntmps8
  go_wp2_with fail
  refine (alive_c _).mono ?_
  rintro e w1 ⟨rfl, hb⟩
  replace Ha := Lib.hid (Ha.out.up hb)
  replace Hb := Lib.hid (Hb.out.up hb)
  replace Ww := Lib.hid (Ww.out.up hb)
  replace HW := Lib.hid (bel_step HW.out hb)
  clear hb
  obtain ⟨a0, a1, a2, a3⟩ := Ha.out.cells
  have lta := Ha.out.lt
  obtain ⟨b0, b1, b2, b3⟩ := Hb.out.cells
  have ltb := Hb.out.lt
  go_wp2_with fail
  refine (great_c a An Aa an aa _).mono ?_
  rintro e w2 ⟨rfl, hb⟩
  replace Ha := Lib.hid (Ha.out.up hb)
  replace Hb := Lib.hid (Hb.out.up hb)
  replace Ww := Lib.hid (Ww.out.up hb)
  replace HW := Lib.hid (bel_step HW.out hb)
  clear a0 a1 a2 a3 lta
  clear b0 b1 b2 b3 ltb
  clear hb
  obtain ⟨a0, a1, a2, a3⟩ := Ha.out.cells
  have lta := Ha.out.lt
  obtain ⟨b0, b1, b2, b3⟩ := Hb.out.cells
  have ltb := Hb.out.lt
  rw [GA.out]
  go_wp2_with fail
  refine (great_c b Bn Ba bn ba _).mono ?_
  rintro e w3 ⟨rfl, hb⟩
  replace Ha := Lib.hid (Ha.out.up hb)
  replace Hb := Lib.hid (Hb.out.up hb)
  replace Ww := Lib.hid (Ww.out.up hb)
  replace HW := Lib.hid (bel_step HW.out hb)
  clear a0 a1 a2 a3 lta
  clear b0 b1 b2 b3 ltb
  clear hb
  obtain ⟨a0, a1, a2, a3⟩ := Ha.out.cells
  have lta := Ha.out.lt
  obtain ⟨b0, b1, b2, b3⟩ := Hb.out.cells
  have ltb := Hb.out.lt
  rw [GB.out]
  go_wp2_with fail
  go_ret
  exact ⟨rfl, HW.out⟩
set_option maxHeartbeats 4000000 in
set_option maxRecDepth 100000 in
theorem dfaLaws_ra (a b : D) (An Aa Bn Ba A : Option Addr) (an aa bn ba cw : Nat) (ws : List Int) (w : World) (ha : DIn w a An Aa) (hb : DIn w b Bn Ba) (hw : WIn w ws A) (ga : a.great = false) (gb : b.great = false) (ra : a.right = false) :
    Calls Try.prog 8 #[dfaV a.K a.S An a.N.length an Aa a.A.length aa, dfaV b.K b.S Bn b.N.length bn Ba b.A.length ba, .slice A ws.length cw] w (Ret (.bool true) w) := by
  have GA := Lib.hid ga; clear ga
  have GB := Lib.hid gb; clear gb
  have RA := Lib.hid ra; clear ra
  have Ha := Lib.hid ((HasD.new ha an aa).alloc (.cells #[.int .i64 b.K, .int .i64 b.S, .slice Bn b.N.length bn, .slice Ba b.A.length ba] 25))
  have Hb : Hid (HasD ((w.alloc (.cells #[.int .i64 a.K, .int .i64 a.S, .slice An a.N.length an, .slice Aa a.A.length aa] 25)).alloc (.cells #[.int .i64 b.K, .int .i64 b.S, .slice Bn b.N.length bn, .slice Ba b.A.length ba] 25)) (w.heap.size + 1) b Bn bn Ba ba) := HasD.newAt (hb.alloc _) bn ba (by simp)
  have Ww := Lib.hid ((hw.alloc (.cells #[.int .i64 a.K, .int .i64 a.S, .slice An a.N.length an, .slice Aa a.A.length aa] 25)).alloc (.cells #[.int .i64 b.K, .int .i64 b.S, .slice Bn b.N.length bn, .slice Ba b.A.length ba] 25))
  have HW := Lib.hid (bel_alloc (bel_new w (.cells #[.int .i64 a.K, .int .i64 a.S, .slice An a.N.length an, .slice Aa a.A.length aa] 25)) (.cells #[.int .i64 b.K, .int .i64 b.S, .slice Bn b.N.length bn, .slice Ba b.A.length ba] 25))
  clear ha hb hw
  go_enter Try.func8, Try.ntmps8
  go_wp2_with fail
  refine (alive_c _).mono ?_
  rintro e w1 ⟨rfl, hb⟩
  replace Ha := Lib.hid (Ha.out.up hb)
  replace Hb := Lib.hid (Hb.out.up hb)
  replace Ww := Lib.hid (Ww.out.up hb)
  replace HW := Lib.hid (bel_step HW.out hb)
  clear hb
  obtain ⟨a0, a1, a2, a3⟩ := Ha.out.cells
  have lta := Ha.out.lt
  obtain ⟨b0, b1, b2, b3⟩ := Hb.out.cells
  have ltb := Hb.out.lt
  go_wp2_with fail
  refine (great_c a An Aa an aa _).mono ?_
  rintro e w2 ⟨rfl, hb⟩
  replace Ha := Lib.hid (Ha.out.up hb)
  replace Hb := Lib.hid (Hb.out.up hb)
  replace Ww := Lib.hid (Ww.out.up hb)
  replace HW := Lib.hid (bel_step HW.out hb)
  clear a0 a1 a2 a3 lta
  clear b0 b1 b2 b3 ltb
  clear hb
  obtain ⟨a0, a1, a2, a3⟩ := Ha.out.cells
  have lta := Ha.out.lt
  obtain ⟨b0, b1, b2, b3⟩ := Hb.out.cells
  have ltb := Hb.out.lt
  rw [GA.out]
  go_wp2_with fail
  refine (great_c b Bn Ba bn ba _).mono ?_
  rintro e w3 ⟨rfl, hb⟩
  replace Ha := Lib.hid (Ha.out.up hb)
  replace Hb := Lib.hid (Hb.out.up hb)
  replace Ww := Lib.hid (Ww.out.up hb)
  replace HW := Lib.hid (bel_step HW.out hb)
  clear a0 a1 a2 a3 lta
  clear b0 b1 b2 b3 ltb
  clear hb
  obtain ⟨a0, a1, a2, a3⟩ := Ha.out.cells
  have lta := Ha.out.lt
  obtain ⟨b0, b1, b2, b3⟩ := Hb.out.cells
  have ltb := Hb.out.lt
  rw [GB.out]
  go_wp2_with fail
  refine (right_c Ha.out.din an aa).mono ?_
  rintro e w4 ⟨rfl, hb⟩
  replace Ha := Lib.hid (Ha.out.up hb)
  replace Hb := Lib.hid (Hb.out.up hb)
  replace Ww := Lib.hid (Ww.out.up hb)
  replace HW := Lib.hid (bel_step HW.out hb)
  clear a0 a1 a2 a3 lta
  clear b0 b1 b2 b3 ltb
  clear hb
  obtain ⟨a0, a1, a2, a3⟩ := Ha.out.cells
  have lta := Ha.out.lt
  obtain ⟨b0, b1, b2, b3⟩ := Hb.out.cells
  have ltb := Hb.out.lt
  rw [RA.out]
  go_wp2_with fail
  go_ret
  exact ⟨rfl, HW.out⟩
set_option maxHeartbeats 4000000 in
set_option maxRecDepth 100000 in
theorem dfaLaws_rb (a b : D) (An Aa Bn Ba A : Option Addr) (an aa bn ba cw : Nat) (ws : List Int) (w : World) (ha : DIn w a An Aa) (hb : DIn w b Bn Ba) (hw : WIn w ws A) (ga : a.great = false) (gb : b.great = false) (ra : a.right = true) (rb : b.right = false) :
    Calls Try.prog 8 #[dfaV a.K a.S An a.N.length an Aa a.A.length aa, dfaV b.K b.S Bn b.N.length bn Ba b.A.length ba, .slice A ws.length cw] w (Ret (.bool true) w) := by
  have GA := Lib.hid ga; clear ga
  have GB := Lib.hid gb; clear gb
  have RA := Lib.hid ra; clear ra
  have RB := Lib.hid rb; clear rb
  have Ha := Lib.hid ((HasD.new ha an aa).alloc (.cells #[.int .i64 b.K, .int .i64 b.S, .slice Bn b.N.length bn, .slice Ba b.A.length ba] 25))
  have Hb : Hid (HasD ((w.alloc (.cells #[.int .i64 a.K, .int .i64 a.S, .slice An a.N.length an, .slice Aa a.A.length aa] 25)).alloc (.cells #[.int .i64 b.K, .int .i64 b.S, .slice Bn b.N.length bn, .slice Ba b.A.length ba] 25)) (w.heap.size + 1) b Bn bn Ba ba) := HasD.newAt (hb.alloc _) bn ba (by simp)
  have Ww := Lib.hid ((hw.alloc (.cells #[.int .i64 a.K, .int .i64 a.S, .slice An a.N.length an, .slice Aa a.A.length aa] 25)).alloc (.cells #[.int .i64 b.K, .int .i64 b.S, .slice Bn b.N.length bn, .slice Ba b.A.length ba] 25))
  have HW := Lib.hid (bel_alloc (bel_new w (.cells #[.int .i64 a.K, .int .i64 a.S, .slice An a.N.length an, .slice Aa a.A.length aa] 25)) (.cells #[.int .i64 b.K, .int .i64 b.S, .slice Bn b.N.length bn, .slice Ba b.A.length ba] 25))
  clear ha hb hw
  go_enter Try.func8, Try.ntmps8
  go_wp2_with fail
  refine (alive_c _).mono ?_
  rintro e w1 ⟨rfl, hb⟩
  replace Ha := Lib.hid (Ha.out.up hb)
  replace Hb := Lib.hid (Hb.out.up hb)
  replace Ww := Lib.hid (Ww.out.up hb)
  replace HW := Lib.hid (bel_step HW.out hb)
  clear hb
  obtain ⟨a0, a1, a2, a3⟩ := Ha.out.cells
  have lta := Ha.out.lt
  obtain ⟨b0, b1, b2, b3⟩ := Hb.out.cells
  have ltb := Hb.out.lt
  go_wp2_with fail
  refine (great_c a An Aa an aa _).mono ?_
  rintro e w2 ⟨rfl, hb⟩
  replace Ha := Lib.hid (Ha.out.up hb)
  replace Hb := Lib.hid (Hb.out.up hb)
  replace Ww := Lib.hid (Ww.out.up hb)
  replace HW := Lib.hid (bel_step HW.out hb)
  clear a0 a1 a2 a3 lta
  clear b0 b1 b2 b3 ltb
  clear hb
  obtain ⟨a0, a1, a2, a3⟩ := Ha.out.cells
  have lta := Ha.out.lt
  obtain ⟨b0, b1, b2, b3⟩ := Hb.out.cells
  have ltb := Hb.out.lt
  rw [GA.out]
  go_wp2_with fail
  refine (great_c b Bn Ba bn ba _).mono ?_
  rintro e w3 ⟨rfl, hb⟩
  replace Ha := Lib.hid (Ha.out.up hb)
  replace Hb := Lib.hid (Hb.out.up hb)
  replace Ww := Lib.hid (Ww.out.up hb)
  replace HW := Lib.hid (bel_step HW.out hb)
  clear a0 a1 a2 a3 lta
  clear b0 b1 b2 b3 ltb
  clear hb
  obtain ⟨a0, a1, a2, a3⟩ := Ha.out.cells
  have lta := Ha.out.lt
  obtain ⟨b0, b1, b2, b3⟩ := Hb.out.cells
  have ltb := Hb.out.lt
  rw [GB.out]
  go_wp2_with fail
  refine (right_c Ha.out.din an aa).mono ?_
  rintro e w4 ⟨rfl, hb⟩
  replace Ha := Lib.hid (Ha.out.up hb)
  replace Hb := Lib.hid (Hb.out.up hb)
  replace Ww := Lib.hid (Ww.out.up hb)
  replace HW := Lib.hid (bel_step HW.out hb)
  clear a0 a1 a2 a3 lta
  clear b0 b1 b2 b3 ltb
  clear hb
  obtain ⟨a0, a1, a2, a3⟩ := Ha.out.cells
  have lta := Ha.out.lt
  obtain ⟨b0, b1, b2, b3⟩ := Hb.out.cells
  have ltb := Hb.out.lt
  rw [RA.out]
  go_wp2_with fail
  refine (right_c Hb.out.din bn ba).mono ?_
  rintro e w5 ⟨rfl, hb⟩
  replace Ha := Lib.hid (Ha.out.up hb)
  replace Hb := Lib.hid (Hb.out.up hb)
  replace Ww := Lib.hid (Ww.out.up hb)
  replace HW := Lib.hid (bel_step HW.out hb)
  clear a0 a1 a2 a3 lta
  clear b0 b1 b2 b3 ltb
  clear hb
  obtain ⟨a0, a1, a2, a3⟩ := Ha.out.cells
  have lta := Ha.out.lt
  obtain ⟨b0, b1, b2, b3⟩ := Hb.out.cells
  have ltb := Hb.out.lt
  rw [RB.out]
  go_wp2_with fail
  go_ret
  exact ⟨rfl, HW.out⟩
set_option maxHeartbeats 4000000 in
set_option maxRecDepth 100000 in
theorem dfaLaws_kk (a b : D) (An Aa Bn Ba A : Option Addr) (an aa bn ba cw : Nat) (ws : List Int) (w : World) (ha : DIn w a An Aa) (hb : DIn w b Bn Ba) (hw : WIn w ws A) (ga : a.great = false) (gb : b.great = false) (ra : a.right = true) (rb : b.right = true) (hk : (a.K != b.K) = true) :
    Calls Try.prog 8 #[dfaV a.K a.S An a.N.length an Aa a.A.length aa, dfaV b.K b.S Bn b.N.length bn Ba b.A.length ba, .slice A ws.length cw] w (Ret (.bool true) w) := by
  have GA := Lib.hid ga; clear ga
  have GB := Lib.hid gb; clear gb
  have RA := Lib.hid ra; clear ra
  have RB := Lib.hid rb; clear rb
  have Ha := Lib.hid ((HasD.new ha an aa).alloc (.cells #[.int .i64 b.K, .int .i64 b.S, .slice Bn b.N.length bn, .slice Ba b.A.length ba] 25))
  have Hb : Hid (HasD ((w.alloc (.cells #[.int .i64 a.K, .int .i64 a.S, .slice An a.N.length an, .slice Aa a.A.length aa] 25)).alloc (.cells #[.int .i64 b.K, .int .i64 b.S, .slice Bn b.N.length bn, .slice Ba b.A.length ba] 25)) (w.heap.size + 1) b Bn bn Ba ba) := HasD.newAt (hb.alloc _) bn ba (by simp)
  have Ww := Lib.hid ((hw.alloc (.cells #[.int .i64 a.K, .int .i64 a.S, .slice An a.N.length an, .slice Aa a.A.length aa] 25)).alloc (.cells #[.int .i64 b.K, .int .i64 b.S, .slice Bn b.N.length bn, .slice Ba b.A.length ba] 25))
  have HW := Lib.hid (bel_alloc (bel_new w (.cells #[.int .i64 a.K, .int .i64 a.S, .slice An a.N.length an, .slice Aa a.A.length aa] 25)) (.cells #[.int .i64 b.K, .int .i64 b.S, .slice Bn b.N.length bn, .slice Ba b.A.length ba] 25))
  clear ha hb hw
  go_enter Try.func8, Try.ntmps8
  go_wp2_with fail
  refine (alive_c _).mono ?_
  rintro e w1 ⟨rfl, hb⟩
  replace Ha := Lib.hid (Ha.out.up hb)
  replace Hb := Lib.hid (Hb.out.up hb)
  replace Ww := Lib.hid (Ww.out.up hb)
  replace HW := Lib.hid (bel_step HW.out hb)
  clear hb
  obtain ⟨a0, a1, a2, a3⟩ := Ha.out.cells
  have lta := Ha.out.lt
  obtain ⟨b0, b1, b2, b3⟩ := Hb.out.cells
  have ltb := Hb.out.lt
  go_wp2_with fail
  refine (great_c a An Aa an aa _).mono ?_
  rintro e w2 ⟨rfl, hb⟩
  replace Ha := Lib.hid (Ha.out.up hb)
  replace Hb := Lib.hid (Hb.out.up hb)
  replace Ww := Lib.hid (Ww.out.up hb)
  replace HW := Lib.hid (bel_step HW.out hb)
  clear a0 a1 a2 a3 lta
  clear b0 b1 b2 b3 ltb
  clear hb
  obtain ⟨a0, a1, a2, a3⟩ := Ha.out.cells
  have lta := Ha.out.lt
  obtain ⟨b0, b1, b2, b3⟩ := Hb.out.cells
  have ltb := Hb.out.lt
  rw [GA.out]
  go_wp2_with fail
  refine (great_c b Bn Ba bn ba _).mono ?_
  rintro e w3 ⟨rfl, hb⟩
  replace Ha := Lib.hid (Ha.out.up hb)
  replace Hb := Lib.hid (Hb.out.up hb)
  replace Ww := Lib.hid (Ww.out.up hb)
  replace HW := Lib.hid (bel_step HW.out hb)
  clear a0 a1 a2 a3 lta
  clear b0 b1 b2 b3 ltb
  clear hb
  obtain ⟨a0, a1, a2, a3⟩ := Ha.out.cells
  have lta := Ha.out.lt
  obtain ⟨b0, b1, b2, b3⟩ := Hb.out.cells
  have ltb := Hb.out.lt
  rw [GB.out]
  go_wp2_with fail
  refine (right_c Ha.out.din an aa).mono ?_
  rintro e w4 ⟨rfl, hb⟩
  replace Ha := Lib.hid (Ha.out.up hb)
  replace Hb := Lib.hid (Hb.out.up hb)
  replace Ww := Lib.hid (Ww.out.up hb)
  replace HW := Lib.hid (bel_step HW.out hb)
  clear a0 a1 a2 a3 lta
  clear b0 b1 b2 b3 ltb
  clear hb
  obtain ⟨a0, a1, a2, a3⟩ := Ha.out.cells
  have lta := Ha.out.lt
  obtain ⟨b0, b1, b2, b3⟩ := Hb.out.cells
  have ltb := Hb.out.lt
  rw [RA.out]
  go_wp2_with fail
  refine (right_c Hb.out.din bn ba).mono ?_
  rintro e w5 ⟨rfl, hb⟩
  replace Ha := Lib.hid (Ha.out.up hb)
  replace Hb := Lib.hid (Hb.out.up hb)
  replace Ww := Lib.hid (Ww.out.up hb)
  replace HW := Lib.hid (bel_step HW.out hb)
  clear a0 a1 a2 a3 lta
  clear b0 b1 b2 b3 ltb
  clear hb
  obtain ⟨a0, a1, a2, a3⟩ := Ha.out.cells
  have lta := Ha.out.lt
  obtain ⟨b0, b1, b2, b3⟩ := Hb.out.cells
  have ltb := Hb.out.lt
  rw [RB.out]
  go_wp2_with fail
  go_ret
  exact ⟨rfl, HW.out⟩
set_option maxHeartbeats 4000000 in
set_option maxRecDepth 100000 in
theorem dfaLaws_long (a b : D) (An Aa Bn Ba A : Option Addr) (an aa bn ba cw : Nat) (ws : List Int) (w : World) (ha : DIn w a An Aa) (hb : DIn w b Bn Ba) (hw : WIn w ws A) (ga : a.great = false) (gb : b.great = false) (ra : a.right = true) (rb : b.right = true) (hk : (a.K != b.K) = false) (hl : 200 < ws.length) :
    Calls Try.prog 8 #[dfaV a.K a.S An a.N.length an Aa a.A.length aa, dfaV b.K b.S Bn b.N.length bn Ba b.A.length ba, .slice A ws.length cw] w (Ret (.bool true) w) := by
  have GA := Lib.hid ga; clear ga
  have GB := Lib.hid gb; clear gb
  have RA := Lib.hid ra; clear ra
  have RB := Lib.hid rb; clear rb
  have Ha := Lib.hid ((HasD.new ha an aa).alloc (.cells #[.int .i64 b.K, .int .i64 b.S, .slice Bn b.N.length bn, .slice Ba b.A.length ba] 25))
  have Hb : Hid (HasD ((w.alloc (.cells #[.int .i64 a.K, .int .i64 a.S, .slice An a.N.length an, .slice Aa a.A.length aa] 25)).alloc (.cells #[.int .i64 b.K, .int .i64 b.S, .slice Bn b.N.length bn, .slice Ba b.A.length ba] 25)) (w.heap.size + 1) b Bn bn Ba ba) := HasD.newAt (hb.alloc _) bn ba (by simp)
  have Ww := Lib.hid ((hw.alloc (.cells #[.int .i64 a.K, .int .i64 a.S, .slice An a.N.length an, .slice Aa a.A.length aa] 25)).alloc (.cells #[.int .i64 b.K, .int .i64 b.S, .slice Bn b.N.length bn, .slice Ba b.A.length ba] 25))
  have HW := Lib.hid (bel_alloc (bel_new w (.cells #[.int .i64 a.K, .int .i64 a.S, .slice An a.N.length an, .slice Aa a.A.length aa] 25)) (.cells #[.int .i64 b.K, .int .i64 b.S, .slice Bn b.N.length bn, .slice Ba b.A.length ba] 25))
  clear ha hb hw
  go_enter Try.func8, Try.ntmps8
  go_wp2_with fail
  refine (alive_c _).mono ?_
  rintro e w1 ⟨rfl, hb⟩
  replace Ha := Lib.hid (Ha.out.up hb)
  replace Hb := Lib.hid (Hb.out.up hb)
  replace Ww := Lib.hid (Ww.out.up hb)
  replace HW := Lib.hid (bel_step HW.out hb)
  clear hb
  obtain ⟨a0, a1, a2, a3⟩ := Ha.out.cells
  have lta := Ha.out.lt
  obtain ⟨b0, b1, b2, b3⟩ := Hb.out.cells
  have ltb := Hb.out.lt
  go_wp2_with fail
  refine (great_c a An Aa an aa _).mono ?_
  rintro e w2 ⟨rfl, hb⟩
  replace Ha := Lib.hid (Ha.out.up hb)
  replace Hb := Lib.hid (Hb.out.up hb)
  replace Ww := Lib.hid (Ww.out.up hb)
  replace HW := Lib.hid (bel_step HW.out hb)
  clear a0 a1 a2 a3 lta
  clear b0 b1 b2 b3 ltb
  clear hb
  obtain ⟨a0, a1, a2, a3⟩ := Ha.out.cells
  have lta := Ha.out.lt
  obtain ⟨b0, b1, b2, b3⟩ := Hb.out.cells
  have ltb := Hb.out.lt
  rw [GA.out]
  go_wp2_with fail
  refine (great_c b Bn Ba bn ba _).mono ?_
  rintro e w3 ⟨rfl, hb⟩
  replace Ha := Lib.hid (Ha.out.up hb)
  replace Hb := Lib.hid (Hb.out.up hb)
  replace Ww := Lib.hid (Ww.out.up hb)
  replace HW := Lib.hid (bel_step HW.out hb)
  clear a0 a1 a2 a3 lta
  clear b0 b1 b2 b3 ltb
  clear hb
  obtain ⟨a0, a1, a2, a3⟩ := Ha.out.cells
  have lta := Ha.out.lt
  obtain ⟨b0, b1, b2, b3⟩ := Hb.out.cells
  have ltb := Hb.out.lt
  rw [GB.out]
  go_wp2_with fail
  refine (right_c Ha.out.din an aa).mono ?_
  rintro e w4 ⟨rfl, hb⟩
  replace Ha := Lib.hid (Ha.out.up hb)
  replace Hb := Lib.hid (Hb.out.up hb)
  replace Ww := Lib.hid (Ww.out.up hb)
  replace HW := Lib.hid (bel_step HW.out hb)
  clear a0 a1 a2 a3 lta
  clear b0 b1 b2 b3 ltb
  clear hb
  obtain ⟨a0, a1, a2, a3⟩ := Ha.out.cells
  have lta := Ha.out.lt
  obtain ⟨b0, b1, b2, b3⟩ := Hb.out.cells
  have ltb := Hb.out.lt
  rw [RA.out]
  go_wp2_with fail
  refine (right_c Hb.out.din bn ba).mono ?_
  rintro e w5 ⟨rfl, hb⟩
  replace Ha := Lib.hid (Ha.out.up hb)
  replace Hb := Lib.hid (Hb.out.up hb)
  replace Ww := Lib.hid (Ww.out.up hb)
  replace HW := Lib.hid (bel_step HW.out hb)
  clear a0 a1 a2 a3 lta
  clear b0 b1 b2 b3 ltb
  clear hb
  obtain ⟨a0, a1, a2, a3⟩ := Ha.out.cells
  have lta := Ha.out.lt
  obtain ⟨b0, b1, b2, b3⟩ := Hb.out.cells
  have ltb := Hb.out.lt
  rw [RB.out]
  go_wp2_with fail
  go_ret
  exact ⟨rfl, HW.out⟩
set_option maxHeartbeats 32000000 in
set_option maxRecDepth 100000 in
theorem dfaLaws_main (a b : D) (An Aa Bn Ba A : Option Addr) (an aa bn ba cw : Nat) (ws : List Int) (w : World) (ha : DIn w a An Aa) (hb : DIn w b Bn Ba) (hw : WIn w ws A) (ga : a.great = false) (gb : b.great = false) (ra : a.right = true) (rb : b.right = true) (hk : (a.K != b.K) = false) (hl : ¬ 200 < ws.length) :
    Calls Try.prog 8 #[dfaV a.K a.S An a.N.length an Aa a.A.length aa, dfaV b.K b.S Bn b.N.length bn Ba b.A.length ba, .slice A ws.length cw] w (Ret (.bool true) w) := by
  have hok := D.right_true.1 ra
  have hbok := D.right_true.1 rb
  have hK : a.K = b.K := by simpa using hk
  obtain ⟨hza, _, _⟩ := D.great_no ga
  obtain ⟨hzb, _, _⟩ := D.great_no gb
  have hab : a.A.length * b.A.length ≤ 144 := Nat.le_trans (Nat.mul_le_mul hza hzb) (by omega)
  have hba : b.A.length * a.A.length ≤ 144 := by rw [Nat.mul_comm]; exact hab
  have la : (notD a).A.length = a.A.length := by simp [notD]
  have lb : (notD b).A.length = b.A.length := by simp [notD]
  have cN := fun (W : World) (h : DIn W a An Aa) => not_c h an aa
  rw [show notE a = notD a from if_pos hok, show okE a.right = 0 by rw [ra]; rfl] at cN
  have cM := fun (W : World) (h : DIn W b Bn Ba) => not_c h bn ba
  rw [show notE b = notD b from if_pos hbok, show okE b.right = 0 by rw [rb]; rfl] at cM
  have laws := fun (out both alone all : D) (L1 L2 L3 L4 : List (Int × Int)) h1 h2 h3 h4 => laws_plain (a := a) (b := b) (out := out) (both := both) (alone := alone) (all := all) (L1 := L1) (L2 := L2) (L3 := L3) (L4 := L4) hok hbok hK h1 h2 h3 h4 hab ws
  have hcok := notD_ok hok
  have hdok := notD_ok hbok
  have hcd : (notD a).A.length * (notD b).A.length ≤ 144 := by rw [la, lb]; exact hab
  obtain ⟨c, hc⟩ : ∃ c, c = notD a := ⟨_, rfl⟩
  obtain ⟨d, hd⟩ : ∃ d, d = notD b := ⟨_, rfl⟩
  have hcK : c.K = d.K := by rw [hc, hd]; exact hK
  rw [← hc] at cN hcok hcd laws
  rw [← hd] at cM hdok hcd laws
  have LAWS := Lib.hid laws
  have HKK := Lib.hid hK; have HCK := Lib.hid hcK
  have HOK := Lib.hid hok; have HBK := Lib.hid hbok; have HCO := Lib.hid hcok; have HDO := Lib.hid hdok
  have CN := Lib.hid cN; have CM := Lib.hid cM
  clear cN cM laws hcok hdok hc hd hcK hok hbok hK la lb
  have GA := Lib.hid ga; clear ga
  have GB := Lib.hid gb; clear gb
  have RA := Lib.hid ra; clear ra
  have RB := Lib.hid rb; clear rb
  have Ha := Lib.hid ((HasD.new ha an aa).alloc (.cells #[.int .i64 b.K, .int .i64 b.S, .slice Bn b.N.length bn, .slice Ba b.A.length ba] 25))
  have Hb : Hid (HasD ((w.alloc (.cells #[.int .i64 a.K, .int .i64 a.S, .slice An a.N.length an, .slice Aa a.A.length aa] 25)).alloc (.cells #[.int .i64 b.K, .int .i64 b.S, .slice Bn b.N.length bn, .slice Ba b.A.length ba] 25)) (w.heap.size + 1) b Bn bn Ba ba) := HasD.newAt (hb.alloc _) bn ba (by simp)
  have Ww := Lib.hid ((hw.alloc (.cells #[.int .i64 a.K, .int .i64 a.S, .slice An a.N.length an, .slice Aa a.A.length aa] 25)).alloc (.cells #[.int .i64 b.K, .int .i64 b.S, .slice Bn b.N.length bn, .slice Ba b.A.length ba] 25))
  have HW := Lib.hid (bel_alloc (bel_new w (.cells #[.int .i64 a.K, .int .i64 a.S, .slice An a.N.length an, .slice Aa a.A.length aa] 25)) (.cells #[.int .i64 b.K, .int .i64 b.S, .slice Bn b.N.length bn, .slice Ba b.A.length ba] 25))
  clear ha hb hw
  go_enter Try.func8, Try.ntmps8
  go_wp2_with fail
  refine (alive_c _).mono ?_
  rintro e w1 ⟨rfl, hb⟩
  replace Ha := Lib.hid (Ha.out.up hb)
  replace Hb := Lib.hid (Hb.out.up hb)
  replace Ww := Lib.hid (Ww.out.up hb)
  replace HW := Lib.hid (bel_step HW.out hb)
  clear hb
  obtain ⟨a0, a1, a2, a3⟩ := Ha.out.cells
  have lta := Ha.out.lt
  obtain ⟨b0, b1, b2, b3⟩ := Hb.out.cells
  have ltb := Hb.out.lt
  go_wp2_with fail
  refine (great_c a An Aa an aa _).mono ?_
  rintro e w2 ⟨rfl, hb⟩
  replace Ha := Lib.hid (Ha.out.up hb)
  replace Hb := Lib.hid (Hb.out.up hb)
  replace Ww := Lib.hid (Ww.out.up hb)
  replace HW := Lib.hid (bel_step HW.out hb)
  clear a0 a1 a2 a3 lta
  clear b0 b1 b2 b3 ltb
  clear hb
  obtain ⟨a0, a1, a2, a3⟩ := Ha.out.cells
  have lta := Ha.out.lt
  obtain ⟨b0, b1, b2, b3⟩ := Hb.out.cells
  have ltb := Hb.out.lt
  rw [GA.out]
  go_wp2_with fail
  refine (great_c b Bn Ba bn ba _).mono ?_
  rintro e w3 ⟨rfl, hb⟩
  replace Ha := Lib.hid (Ha.out.up hb)
  replace Hb := Lib.hid (Hb.out.up hb)
  replace Ww := Lib.hid (Ww.out.up hb)
  replace HW := Lib.hid (bel_step HW.out hb)
  clear a0 a1 a2 a3 lta
  clear b0 b1 b2 b3 ltb
  clear hb
  obtain ⟨a0, a1, a2, a3⟩ := Ha.out.cells
  have lta := Ha.out.lt
  obtain ⟨b0, b1, b2, b3⟩ := Hb.out.cells
  have ltb := Hb.out.lt
  rw [GB.out]
  go_wp2_with fail
  refine (right_c Ha.out.din an aa).mono ?_
  rintro e w4 ⟨rfl, hb⟩
  replace Ha := Lib.hid (Ha.out.up hb)
  replace Hb := Lib.hid (Hb.out.up hb)
  replace Ww := Lib.hid (Ww.out.up hb)
  replace HW := Lib.hid (bel_step HW.out hb)
  clear a0 a1 a2 a3 lta
  clear b0 b1 b2 b3 ltb
  clear hb
  obtain ⟨a0, a1, a2, a3⟩ := Ha.out.cells
  have lta := Ha.out.lt
  obtain ⟨b0, b1, b2, b3⟩ := Hb.out.cells
  have ltb := Hb.out.lt
  rw [RA.out]
  go_wp2_with fail
  refine (right_c Hb.out.din bn ba).mono ?_
  rintro e w5 ⟨rfl, hb⟩
  replace Ha := Lib.hid (Ha.out.up hb)
  replace Hb := Lib.hid (Hb.out.up hb)
  replace Ww := Lib.hid (Ww.out.up hb)
  replace HW := Lib.hid (bel_step HW.out hb)
  clear a0 a1 a2 a3 lta
  clear b0 b1 b2 b3 ltb
  clear hb
  obtain ⟨a0, a1, a2, a3⟩ := Ha.out.cells
  have lta := Ha.out.lt
  obtain ⟨b0, b1, b2, b3⟩ := Hb.out.cells
  have ltb := Hb.out.lt
  rw [RB.out]
  go_wp2_with fail
  refine (CN.out _ Ha.out.din).mono ?_
  rintro e w6 ⟨v, rfl, hx, hb⟩
  replace Ha := Lib.hid (Ha.out.up hb)
  replace Hb := Lib.hid (Hb.out.up hb)
  replace Ww := Lib.hid (Ww.out.up hb)
  replace HW := Lib.hid (bel_step HW.out hb)
  clear a0 a1 a2 a3 lta
  clear b0 b1 b2 b3 ltb
  clear hb
  obtain ⟨Cn, ccn, Ca, cca, rfl, dx⟩ := hx.din HCO.out.sizes
  clear hx
  obtain ⟨a0, a1, a2, a3⟩ := Ha.out.cells
  have lta := Ha.out.lt
  obtain ⟨b0, b1, b2, b3⟩ := Hb.out.cells
  have ltb := Hb.out.lt
  have Hc := Lib.hid (HasD.new dx ccn cca)
  replace Ha := Lib.hid (Ha.out.alloc (.cells #[.int .i64 c.K, .int .i64 c.S, .slice Cn c.N.length ccn, .slice Ca c.A.length cca] 25))
  replace Hb := Lib.hid (Hb.out.alloc (.cells #[.int .i64 c.K, .int .i64 c.S, .slice Cn c.N.length ccn, .slice Ca c.A.length cca] 25))
  replace Ww := Lib.hid (Ww.out.alloc (.cells #[.int .i64 c.K, .int .i64 c.S, .slice Cn c.N.length ccn, .slice Ca c.A.length cca] 25))
  replace HW := Lib.hid (bel_alloc HW.out (.cells #[.int .i64 c.K, .int .i64 c.S, .slice Cn c.N.length ccn, .slice Ca c.A.length cca] 25))
  clear dx
  go_wp2_with fail
  refine (CM.out _ Hb.out.din).mono ?_
  rintro e w7 ⟨v, rfl, hx, hb⟩
  replace Ha := Lib.hid (Ha.out.up hb)
  replace Hb := Lib.hid (Hb.out.up hb)
  replace Hc := Lib.hid (Hc.out.up hb)
  replace Ww := Lib.hid (Ww.out.up hb)
  replace HW := Lib.hid (bel_step HW.out hb)
  clear a0 a1 a2 a3 lta
  clear b0 b1 b2 b3 ltb
  clear hb
  obtain ⟨Dn, ddn, Da, dda, rfl, dx⟩ := hx.din HDO.out.sizes
  clear hx
  obtain ⟨a0, a1, a2, a3⟩ := Ha.out.cells
  have lta := Ha.out.lt
  obtain ⟨b0, b1, b2, b3⟩ := Hb.out.cells
  have ltb := Hb.out.lt
  obtain ⟨c0, c1, c2, c3⟩ := Hc.out.cells
  have ltc := Hc.out.lt
  have Hd := Lib.hid (HasD.new dx ddn dda)
  replace Ha := Lib.hid (Ha.out.alloc (.cells #[.int .i64 d.K, .int .i64 d.S, .slice Dn d.N.length ddn, .slice Da d.A.length dda] 25))
  replace Hb := Lib.hid (Hb.out.alloc (.cells #[.int .i64 d.K, .int .i64 d.S, .slice Dn d.N.length ddn, .slice Da d.A.length dda] 25))
  replace Hc := Lib.hid (Hc.out.alloc (.cells #[.int .i64 d.K, .int .i64 d.S, .slice Dn d.N.length ddn, .slice Da d.A.length dda] 25))
  replace Ww := Lib.hid (Ww.out.alloc (.cells #[.int .i64 d.K, .int .i64 d.S, .slice Dn d.N.length ddn, .slice Da d.A.length dda] 25))
  replace HW := Lib.hid (bel_alloc HW.out (.cells #[.int .i64 d.K, .int .i64 d.S, .slice Dn d.N.length ddn, .slice Da d.A.length dda] 25))
  clear dx
  go_wp2_with fail
  refine (either_c Hc.out.din Hd.out.din ccn cca ddn dda (.inl (by omega))).mono ?_
  rintro e w8 ⟨o, er, hq, v, rfl, hx, hb⟩
  replace Ha := Lib.hid (Ha.out.up hb)
  replace Hb := Lib.hid (Hb.out.up hb)
  replace Hc := Lib.hid (Hc.out.up hb)
  replace Hd := Lib.hid (Hd.out.up hb)
  replace Ww := Lib.hid (Ww.out.up hb)
  replace HW := Lib.hid (bel_step HW.out hb)
  clear a0 a1 a2 a3 lta
  clear b0 b1 b2 b3 ltb
  clear c0 c1 c2 c3 ltc
  clear hb
  obtain ⟨rfl, L1, hp⟩ := hq.1 (prodOk_yes HCO.out HDO.out HCK.out)
  have P1 := Lib.hid hp
  have P1O := Lib.hid (prod_ok hp HCO.out HDO.out HCK.out (by omega))
  clear hq hp
  obtain ⟨On, oon, Oa, ooa, rfl, dx⟩ := hx.din P1O.out.1.sizes
  clear hx
  obtain ⟨a0, a1, a2, a3⟩ := Ha.out.cells
  have lta := Ha.out.lt
  obtain ⟨b0, b1, b2, b3⟩ := Hb.out.cells
  have ltb := Hb.out.lt
  obtain ⟨c0, c1, c2, c3⟩ := Hc.out.cells
  have ltc := Hc.out.lt
  obtain ⟨d0, d1, d2, d3⟩ := Hd.out.cells
  have ltd := Hd.out.lt
  have Ho := Lib.hid (HasD.new dx oon ooa)
  replace Ha := Lib.hid (Ha.out.alloc (.cells #[.int .i64 o.K, .int .i64 o.S, .slice On o.N.length oon, .slice Oa o.A.length ooa] 25))
  replace Hb := Lib.hid (Hb.out.alloc (.cells #[.int .i64 o.K, .int .i64 o.S, .slice On o.N.length oon, .slice Oa o.A.length ooa] 25))
  replace Hc := Lib.hid (Hc.out.alloc (.cells #[.int .i64 o.K, .int .i64 o.S, .slice On o.N.length oon, .slice Oa o.A.length ooa] 25))
  replace Hd := Lib.hid (Hd.out.alloc (.cells #[.int .i64 o.K, .int .i64 o.S, .slice On o.N.length oon, .slice Oa o.A.length ooa] 25))
  replace Ww := Lib.hid (Ww.out.alloc (.cells #[.int .i64 o.K, .int .i64 o.S, .slice On o.N.length oon, .slice Oa o.A.length ooa] 25))
  replace HW := Lib.hid (bel_alloc HW.out (.cells #[.int .i64 o.K, .int .i64 o.S, .slice On o.N.length oon, .slice Oa o.A.length ooa] 25))
  clear dx
  have hO := P1O.out.2.1
  have hOl : o.A.length ≤ 144 := Nat.le_trans hO hcd
  clear hO
  have cI := fun (W : World) (h : DIn W o On Oa) => not_c h oon ooa
  rw [show notE o = notD o from if_pos P1O.out.1, show okE o.right = 0 by rw [D.right_true.2 P1O.out.1]; rfl] at cI
  have hio := notD_ok P1O.out.1
  obtain ⟨i, hi⟩ : ∃ i, i = notD o := ⟨_, rfl⟩
  rw [← hi] at cI hio
  have CI := Lib.hid cI; have HIO := Lib.hid hio; have HI := Lib.hid hi
  clear cI hio hi
  go_wp2_with fail
  refine (CI.out _ Ho.out.din).mono ?_
  rintro e w9 ⟨v, rfl, hx, hb⟩
  replace Ha := Lib.hid (Ha.out.up hb)
  replace Hb := Lib.hid (Hb.out.up hb)
  replace Hc := Lib.hid (Hc.out.up hb)
  replace Hd := Lib.hid (Hd.out.up hb)
  replace Ho := Lib.hid (Ho.out.up hb)
  replace Ww := Lib.hid (Ww.out.up hb)
  replace HW := Lib.hid (bel_step HW.out hb)
  clear a0 a1 a2 a3 lta
  clear b0 b1 b2 b3 ltb
  clear c0 c1 c2 c3 ltc
  clear d0 d1 d2 d3 ltd
  clear hb
  obtain ⟨In, iin, Ia, iia, rfl, dx⟩ := hx.din HIO.out.sizes
  clear hx
  obtain ⟨a0, a1, a2, a3⟩ := Ha.out.cells
  have lta := Ha.out.lt
  obtain ⟨b0, b1, b2, b3⟩ := Hb.out.cells
  have ltb := Hb.out.lt
  obtain ⟨c0, c1, c2, c3⟩ := Hc.out.cells
  have ltc := Hc.out.lt
  obtain ⟨d0, d1, d2, d3⟩ := Hd.out.cells
  have ltd := Hd.out.lt
  obtain ⟨o0, o1, o2, o3⟩ := Ho.out.cells
  have lto := Ho.out.lt
  have Hi := Lib.hid (HasD.new dx iin iia)
  replace Ha := Lib.hid (Ha.out.alloc (.cells #[.int .i64 i.K, .int .i64 i.S, .slice In i.N.length iin, .slice Ia i.A.length iia] 25))
  replace Hb := Lib.hid (Hb.out.alloc (.cells #[.int .i64 i.K, .int .i64 i.S, .slice In i.N.length iin, .slice Ia i.A.length iia] 25))
  replace Hc := Lib.hid (Hc.out.alloc (.cells #[.int .i64 i.K, .int .i64 i.S, .slice In i.N.length iin, .slice Ia i.A.length iia] 25))
  replace Hd := Lib.hid (Hd.out.alloc (.cells #[.int .i64 i.K, .int .i64 i.S, .slice In i.N.length iin, .slice Ia i.A.length iia] 25))
  replace Ho := Lib.hid (Ho.out.alloc (.cells #[.int .i64 i.K, .int .i64 i.S, .slice In i.N.length iin, .slice Ia i.A.length iia] 25))
  replace Ww := Lib.hid (Ww.out.alloc (.cells #[.int .i64 i.K, .int .i64 i.S, .slice In i.N.length iin, .slice Ia i.A.length iia] 25))
  replace HW := Lib.hid (bel_alloc HW.out (.cells #[.int .i64 i.K, .int .i64 i.S, .slice In i.N.length iin, .slice Ia i.A.length iia] 25))
  clear dx
  go_wp2_with fail
  refine (both_c Hb.out.din Ha.out.din bn ba an aa (.inl (by omega))).mono ?_
  rintro e w10 ⟨p, er, hq, v, rfl, hx, hb⟩
  replace Ha := Lib.hid (Ha.out.up hb)
  replace Hb := Lib.hid (Hb.out.up hb)
  replace Hc := Lib.hid (Hc.out.up hb)
  replace Hd := Lib.hid (Hd.out.up hb)
  replace Ho := Lib.hid (Ho.out.up hb)
  replace Hi := Lib.hid (Hi.out.up hb)
  replace Ww := Lib.hid (Ww.out.up hb)
  replace HW := Lib.hid (bel_step HW.out hb)
  clear a0 a1 a2 a3 lta
  clear b0 b1 b2 b3 ltb
  clear c0 c1 c2 c3 ltc
  clear d0 d1 d2 d3 ltd
  clear o0 o1 o2 o3 lto
  clear hb
  obtain ⟨rfl, L2, hp⟩ := hq.1 (prodOk_yes HBK.out HOK.out HKK.out.symm)
  have P2 := Lib.hid hp
  have P2O := Lib.hid (prod_ok hp HBK.out HOK.out HKK.out.symm (by omega))
  clear hq hp
  obtain ⟨Pn, ppn, Pa, ppa, rfl, dx⟩ := hx.din P2O.out.1.sizes
  clear hx
  obtain ⟨a0, a1, a2, a3⟩ := Ha.out.cells
  have lta := Ha.out.lt
  obtain ⟨b0, b1, b2, b3⟩ := Hb.out.cells
  have ltb := Hb.out.lt
  obtain ⟨c0, c1, c2, c3⟩ := Hc.out.cells
  have ltc := Hc.out.lt
  obtain ⟨d0, d1, d2, d3⟩ := Hd.out.cells
  have ltd := Hd.out.lt
  obtain ⟨o0, o1, o2, o3⟩ := Ho.out.cells
  have lto := Ho.out.lt
  obtain ⟨i0, i1, i2, i3⟩ := Hi.out.cells
  have lti := Hi.out.lt
  have Hp := Lib.hid (HasD.new dx ppn ppa)
  replace Ha := Lib.hid (Ha.out.alloc (.cells #[.int .i64 p.K, .int .i64 p.S, .slice Pn p.N.length ppn, .slice Pa p.A.length ppa] 25))
  replace Hb := Lib.hid (Hb.out.alloc (.cells #[.int .i64 p.K, .int .i64 p.S, .slice Pn p.N.length ppn, .slice Pa p.A.length ppa] 25))
  replace Hc := Lib.hid (Hc.out.alloc (.cells #[.int .i64 p.K, .int .i64 p.S, .slice Pn p.N.length ppn, .slice Pa p.A.length ppa] 25))
  replace Hd := Lib.hid (Hd.out.alloc (.cells #[.int .i64 p.K, .int .i64 p.S, .slice Pn p.N.length ppn, .slice Pa p.A.length ppa] 25))
  replace Ho := Lib.hid (Ho.out.alloc (.cells #[.int .i64 p.K, .int .i64 p.S, .slice Pn p.N.length ppn, .slice Pa p.A.length ppa] 25))
  replace Hi := Lib.hid (Hi.out.alloc (.cells #[.int .i64 p.K, .int .i64 p.S, .slice Pn p.N.length ppn, .slice Pa p.A.length ppa] 25))
  replace Ww := Lib.hid (Ww.out.alloc (.cells #[.int .i64 p.K, .int .i64 p.S, .slice Pn p.N.length ppn, .slice Pa p.A.length ppa] 25))
  replace HW := Lib.hid (bel_alloc HW.out (.cells #[.int .i64 p.K, .int .i64 p.S, .slice Pn p.N.length ppn, .slice Pa p.A.length ppa] 25))
  clear dx
  go_wp2_with fail
  refine (less_c Ha.out.din Hb.out.din an aa bn ba (.inl (by omega))).mono ?_
  rintro e w11 ⟨n, er, hq, v, rfl, hx, hb⟩
  replace Ha := Lib.hid (Ha.out.up hb)
  replace Hb := Lib.hid (Hb.out.up hb)
  replace Hc := Lib.hid (Hc.out.up hb)
  replace Hd := Lib.hid (Hd.out.up hb)
  replace Ho := Lib.hid (Ho.out.up hb)
  replace Hi := Lib.hid (Hi.out.up hb)
  replace Hp := Lib.hid (Hp.out.up hb)
  replace Ww := Lib.hid (Ww.out.up hb)
  replace HW := Lib.hid (bel_step HW.out hb)
  clear a0 a1 a2 a3 lta
  clear b0 b1 b2 b3 ltb
  clear c0 c1 c2 c3 ltc
  clear d0 d1 d2 d3 ltd
  clear o0 o1 o2 o3 lto
  clear i0 i1 i2 i3 lti
  clear hb
  obtain ⟨rfl, L3, hp⟩ := hq.1 (prodOk_yes HOK.out HBK.out HKK.out)
  have P3 := Lib.hid hp
  have P3O := Lib.hid (prod_ok hp HOK.out HBK.out HKK.out (by omega))
  clear hq hp
  obtain ⟨Nn, nnn, Na, nna, rfl, dx⟩ := hx.din P3O.out.1.sizes
  clear hx
  obtain ⟨a0, a1, a2, a3⟩ := Ha.out.cells
  have lta := Ha.out.lt
  obtain ⟨b0, b1, b2, b3⟩ := Hb.out.cells
  have ltb := Hb.out.lt
  obtain ⟨c0, c1, c2, c3⟩ := Hc.out.cells
  have ltc := Hc.out.lt
  obtain ⟨d0, d1, d2, d3⟩ := Hd.out.cells
  have ltd := Hd.out.lt
  obtain ⟨o0, o1, o2, o3⟩ := Ho.out.cells
  have lto := Ho.out.lt
  obtain ⟨i0, i1, i2, i3⟩ := Hi.out.cells
  have lti := Hi.out.lt
  obtain ⟨p0, p1, p2, p3⟩ := Hp.out.cells
  have ltp := Hp.out.lt
  have Hn := Lib.hid (HasD.new dx nnn nna)
  replace Ha := Lib.hid (Ha.out.alloc (.cells #[.int .i64 n.K, .int .i64 n.S, .slice Nn n.N.length nnn, .slice Na n.A.length nna] 25))
  replace Hb := Lib.hid (Hb.out.alloc (.cells #[.int .i64 n.K, .int .i64 n.S, .slice Nn n.N.length nnn, .slice Na n.A.length nna] 25))
  replace Hc := Lib.hid (Hc.out.alloc (.cells #[.int .i64 n.K, .int .i64 n.S, .slice Nn n.N.length nnn, .slice Na n.A.length nna] 25))
  replace Hd := Lib.hid (Hd.out.alloc (.cells #[.int .i64 n.K, .int .i64 n.S, .slice Nn n.N.length nnn, .slice Na n.A.length nna] 25))
  replace Ho := Lib.hid (Ho.out.alloc (.cells #[.int .i64 n.K, .int .i64 n.S, .slice Nn n.N.length nnn, .slice Na n.A.length nna] 25))
  replace Hi := Lib.hid (Hi.out.alloc (.cells #[.int .i64 n.K, .int .i64 n.S, .slice Nn n.N.length nnn, .slice Na n.A.length nna] 25))
  replace Hp := Lib.hid (Hp.out.alloc (.cells #[.int .i64 n.K, .int .i64 n.S, .slice Nn n.N.length nnn, .slice Na n.A.length nna] 25))
  replace Ww := Lib.hid (Ww.out.alloc (.cells #[.int .i64 n.K, .int .i64 n.S, .slice Nn n.N.length nnn, .slice Na n.A.length nna] 25))
  replace HW := Lib.hid (bel_alloc HW.out (.cells #[.int .i64 n.K, .int .i64 n.S, .slice Nn n.N.length nnn, .slice Na n.A.length nna] 25))
  clear dx
  have hnp : n.A.length * p.A.length ≤ 65536 := Nat.le_trans (Nat.mul_le_mul (Nat.le_trans P3O.out.2.1 hab) (Nat.le_trans P2O.out.2.1 hba)) (by omega)
  have HNP : Hid (n.K = p.K) := by rw [Hid, P3O.out.2.2, P2O.out.2.2, HKK.out]
  go_wp2_with fail
  refine (either_c Hn.out.din Hp.out.din nnn nna ppn ppa (.inl (by omega))).mono ?_
  rintro e w12 ⟨l, er, hq, v, rfl, hx, hb⟩
  replace Ha := Lib.hid (Ha.out.up hb)
  replace Hb := Lib.hid (Hb.out.up hb)
  replace Hc := Lib.hid (Hc.out.up hb)
  replace Hd := Lib.hid (Hd.out.up hb)
  replace Ho := Lib.hid (Ho.out.up hb)
  replace Hi := Lib.hid (Hi.out.up hb)
  replace Hp := Lib.hid (Hp.out.up hb)
  replace Hn := Lib.hid (Hn.out.up hb)
  replace Ww := Lib.hid (Ww.out.up hb)
  replace HW := Lib.hid (bel_step HW.out hb)
  clear a0 a1 a2 a3 lta
  clear b0 b1 b2 b3 ltb
  clear c0 c1 c2 c3 ltc
  clear d0 d1 d2 d3 ltd
  clear o0 o1 o2 o3 lto
  clear i0 i1 i2 i3 lti
  clear p0 p1 p2 p3 ltp
  clear hb
  obtain ⟨rfl, L4, hp⟩ := hq.1 (prodOk_yes P3O.out.1 P2O.out.1 HNP.out)
  have P4 := Lib.hid hp
  have P4O := Lib.hid (prod_ok hp P3O.out.1 P2O.out.1 HNP.out hnp)
  clear hq hp
  obtain ⟨Mn, mmn, Ma, mma, rfl, dx⟩ := hx.din P4O.out.1.sizes
  clear hx
  obtain ⟨a0, a1, a2, a3⟩ := Ha.out.cells
  have lta := Ha.out.lt
  obtain ⟨b0, b1, b2, b3⟩ := Hb.out.cells
  have ltb := Hb.out.lt
  obtain ⟨c0, c1, c2, c3⟩ := Hc.out.cells
  have ltc := Hc.out.lt
  obtain ⟨d0, d1, d2, d3⟩ := Hd.out.cells
  have ltd := Hd.out.lt
  obtain ⟨o0, o1, o2, o3⟩ := Ho.out.cells
  have lto := Ho.out.lt
  obtain ⟨i0, i1, i2, i3⟩ := Hi.out.cells
  have lti := Hi.out.lt
  obtain ⟨p0, p1, p2, p3⟩ := Hp.out.cells
  have ltp := Hp.out.lt
  obtain ⟨n0, n1, n2, n3⟩ := Hn.out.cells
  have ltn := Hn.out.lt
  have Hl := Lib.hid (HasD.new dx mmn mma)
  replace Ha := Lib.hid (Ha.out.alloc (.cells #[.int .i64 l.K, .int .i64 l.S, .slice Mn l.N.length mmn, .slice Ma l.A.length mma] 25))
  replace Hb := Lib.hid (Hb.out.alloc (.cells #[.int .i64 l.K, .int .i64 l.S, .slice Mn l.N.length mmn, .slice Ma l.A.length mma] 25))
  replace Hc := Lib.hid (Hc.out.alloc (.cells #[.int .i64 l.K, .int .i64 l.S, .slice Mn l.N.length mmn, .slice Ma l.A.length mma] 25))
  replace Hd := Lib.hid (Hd.out.alloc (.cells #[.int .i64 l.K, .int .i64 l.S, .slice Mn l.N.length mmn, .slice Ma l.A.length mma] 25))
  replace Ho := Lib.hid (Ho.out.alloc (.cells #[.int .i64 l.K, .int .i64 l.S, .slice Mn l.N.length mmn, .slice Ma l.A.length mma] 25))
  replace Hi := Lib.hid (Hi.out.alloc (.cells #[.int .i64 l.K, .int .i64 l.S, .slice Mn l.N.length mmn, .slice Ma l.A.length mma] 25))
  replace Hp := Lib.hid (Hp.out.alloc (.cells #[.int .i64 l.K, .int .i64 l.S, .slice Mn l.N.length mmn, .slice Ma l.A.length mma] 25))
  replace Hn := Lib.hid (Hn.out.alloc (.cells #[.int .i64 l.K, .int .i64 l.S, .slice Mn l.N.length mmn, .slice Ma l.A.length mma] 25))
  replace Ww := Lib.hid (Ww.out.alloc (.cells #[.int .i64 l.K, .int .i64 l.S, .slice Mn l.N.length mmn, .slice Ma l.A.length mma] 25))
  replace HW := Lib.hid (bel_alloc HW.out (.cells #[.int .i64 l.K, .int .i64 l.S, .slice Mn l.N.length mmn, .slice Ma l.A.length mma] 25))
  clear dx
  have hlaw := LAWS.out o p n l L1 L2 L3 L4 P1.out P2.out P3.out P4.out
  rw [← HI.out] at hlaw
  obtain ⟨x, hx⟩ : ∃ x, x = p.tells ws := ⟨_, rfl⟩
  obtain ⟨y, hy⟩ : ∃ y, y = a.tells ws := ⟨_, rfl⟩
  have ci := fun (W : World) (h : DIn W i In Ia) (h' : WIn W ws A) => tells_c h h' iin iia cw
  have cp := fun (W : World) (h : DIn W p Pn Pa) (h' : WIn W ws A) => tells_c h h' ppn ppa cw
  have cl := fun (W : World) (h : DIn W l Mn Ma) (h' : WIn W ws A) => tells_c h h' mmn mma cw
  have ca := fun (W : World) (h : DIn W a An Aa) (h' : WIn W ws A) => tells_c h h' an aa cw
  rw [hlaw.1, ← hx] at ci
  rw [← hx] at cp
  rw [hlaw.2, ← hy] at cl
  rw [← hy] at ca
  have KI := Lib.hid ci; have KP := Lib.hid cp; have KL := Lib.hid cl; have KA := Lib.hid ca
  clear ci cp cl ca hlaw hx hy
  clear Hb
  clear Hc
  clear Hd
  clear Ho
  clear Hn
  go_wp2_with fail
  clear a0 a1 a2 a3 lta
  clear b0 b1 b2 b3 ltb
  clear c0 c1 c2 c3 ltc
  clear d0 d1 d2 d3 ltd
  clear o0 o1 o2 o3 lto
  clear i0 i1 i2 i3 lti
  clear p0 p1 p2 p3 ltp
  clear n0 n1 n2 n3 ltn
  obtain ⟨a0, a1, a2, a3⟩ := Ha.out.cells
  have lta := Ha.out.lt
  obtain ⟨i0, i1, i2, i3⟩ := Hi.out.cells
  have lti := Hi.out.lt
  obtain ⟨p0, p1, p2, p3⟩ := Hp.out.cells
  have ltp := Hp.out.lt
  obtain ⟨l0, l1, l2, l3⟩ := Hl.out.cells
  have ltl := Hl.out.lt
  generalize w9.heap.size = Bi at Hi i0 i1 i2 i3 lti ⊢
  generalize w10.heap.size = Bp at Hp p0 p1 p2 p3 ltp ⊢
  generalize w12.heap.size = Bl at Hl l0 l1 l2 l3 ltl ⊢
  generalize w.heap.size = Ba at Ha a0 a1 a2 a3 lta ⊢
  generalize w12.alloc (.cells #[.int .i64 l.K, .int .i64 l.S, .slice Mn l.N.length mmn, .slice Ma l.A.length mma] 25) = WZ at *
  go_wp2_with fail
  replace Ha := Lib.hid Ha.out.drew
  replace Hi := Lib.hid Hi.out.drew
  replace Hp := Lib.hid Hp.out.drew
  replace Hl := Lib.hid Hl.out.drew
  replace Ww := Lib.hid Ww.out.drew
  replace HW := Lib.hid HW.out.drew
  go_region_held3 (fun w' => w'.cell? ⟨Bi, 0, none⟩ = some (.int .i64 i.K) ∧ w'.cell? ⟨Bi, 1, none⟩ = some (.int .i64 i.S) ∧ w'.cell? ⟨Bi, 2, none⟩ = some (.slice In i.N.length iin) ∧ w'.cell? ⟨Bi, 3, none⟩ = some (.slice Ia i.A.length iia) ∧ w'.cell? ⟨Bp, 0, none⟩ = some (.int .i64 p.K) ∧ w'.cell? ⟨Bp, 1, none⟩ = some (.int .i64 p.S) ∧ w'.cell? ⟨Bp, 2, none⟩ = some (.slice Pn p.N.length ppn) ∧ w'.cell? ⟨Bp, 3, none⟩ = some (.slice Pa p.A.length ppa) ∧ w'.cell? ⟨Bl, 0, none⟩ = some (.int .i64 l.K) ∧ w'.cell? ⟨Bl, 1, none⟩ = some (.int .i64 l.S) ∧ w'.cell? ⟨Bl, 2, none⟩ = some (.slice Mn l.N.length mmn) ∧ w'.cell? ⟨Bl, 3, none⟩ = some (.slice Ma l.A.length mma) ∧ w'.cell? ⟨Ba, 0, none⟩ = some (.int .i64 a.K) ∧ w'.cell? ⟨Ba, 1, none⟩ = some (.int .i64 a.S) ∧ w'.cell? ⟨Ba, 2, none⟩ = some (.slice An a.N.length an) ∧ w'.cell? ⟨Ba, 3, none⟩ = some (.slice Aa a.A.length aa))
    (go_keep)
    (first
        | (go_at_call_of 29 In
           refine (KI.out _ Hi.out.din Ww.out).mono ?_
           rintro e wr0 ⟨rfl, hb0⟩
           have Ha_r0 := Lib.hid (Ha.out.up hb0)
           have Hi_r0 := Lib.hid (Hi.out.up hb0)
           have Hp_r0 := Lib.hid (Hp.out.up hb0)
           have Hl_r0 := Lib.hid (Hl.out.up hb0)
           have Ww_r0 := Lib.hid (Ww.out.up hb0)
           have HW_r0 := Lib.hid (bel_step HW.out hb0)
           obtain ⟨i0_r0, i1_r0, i2_r0, i3_r0⟩ := Hi_r0.out.cells
           obtain ⟨p0_r0, p1_r0, p2_r0, p3_r0⟩ := Hp_r0.out.cells
           obtain ⟨l0_r0, l1_r0, l2_r0, l3_r0⟩ := Hl_r0.out.cells
           obtain ⟨a0_r0, a1_r0, a2_r0, a3_r0⟩ := Ha_r0.out.cells
           have lti_r0 := Hi_r0.out.lt
           have ltp_r0 := Hp_r0.out.lt
           have ltl_r0 := Hl_r0.out.lt
           have lta_r0 := Ha_r0.out.lt
           clear hb0)
        | (go_at_call_of 29 Pn
           refine (KP.out _ Hp_r0.out.din Ww_r0.out).mono ?_
           rintro e wr1 ⟨rfl, hb1⟩
           have Ha_r1 := Lib.hid (Ha_r0.out.up hb1)
           have Hi_r1 := Lib.hid (Hi_r0.out.up hb1)
           have Hp_r1 := Lib.hid (Hp_r0.out.up hb1)
           have Hl_r1 := Lib.hid (Hl_r0.out.up hb1)
           have Ww_r1 := Lib.hid (Ww_r0.out.up hb1)
           have HW_r1 := Lib.hid (bel_step HW_r0.out hb1)
           obtain ⟨i0_r1, i1_r1, i2_r1, i3_r1⟩ := Hi_r1.out.cells
           obtain ⟨p0_r1, p1_r1, p2_r1, p3_r1⟩ := Hp_r1.out.cells
           obtain ⟨l0_r1, l1_r1, l2_r1, l3_r1⟩ := Hl_r1.out.cells
           obtain ⟨a0_r1, a1_r1, a2_r1, a3_r1⟩ := Ha_r1.out.cells
           have lti_r1 := Hi_r1.out.lt
           have ltp_r1 := Hp_r1.out.lt
           have ltl_r1 := Hl_r1.out.lt
           have lta_r1 := Ha_r1.out.lt
           clear hb1)
        | (go_at_call_of 29 Mn
           refine (KL.out _ Hl_r1.out.din Ww_r1.out).mono ?_
           rintro e wr2 ⟨rfl, hb2⟩
           have Ha_r2 := Lib.hid (Ha_r1.out.up hb2)
           have Hi_r2 := Lib.hid (Hi_r1.out.up hb2)
           have Hp_r2 := Lib.hid (Hp_r1.out.up hb2)
           have Hl_r2 := Lib.hid (Hl_r1.out.up hb2)
           have Ww_r2 := Lib.hid (Ww_r1.out.up hb2)
           have HW_r2 := Lib.hid (bel_step HW_r1.out hb2)
           obtain ⟨i0_r2, i1_r2, i2_r2, i3_r2⟩ := Hi_r2.out.cells
           obtain ⟨p0_r2, p1_r2, p2_r2, p3_r2⟩ := Hp_r2.out.cells
           obtain ⟨l0_r2, l1_r2, l2_r2, l3_r2⟩ := Hl_r2.out.cells
           obtain ⟨a0_r2, a1_r2, a2_r2, a3_r2⟩ := Ha_r2.out.cells
           have lti_r2 := Hi_r2.out.lt
           have ltp_r2 := Hp_r2.out.lt
           have ltl_r2 := Hl_r2.out.lt
           have lta_r2 := Ha_r2.out.lt
           clear hb2)
        | (go_at_call_of 29 An
           refine (KA.out _ Ha_r2.out.din Ww_r2.out).mono ?_
           rintro e wr3 ⟨rfl, hb3⟩
           have Ha_r3 := Lib.hid (Ha_r2.out.up hb3)
           have Hi_r3 := Lib.hid (Hi_r2.out.up hb3)
           have Hp_r3 := Lib.hid (Hp_r2.out.up hb3)
           have Hl_r3 := Lib.hid (Hl_r2.out.up hb3)
           have Ww_r3 := Lib.hid (Ww_r2.out.up hb3)
           have HW_r3 := Lib.hid (bel_step HW_r2.out hb3)
           obtain ⟨i0_r3, i1_r3, i2_r3, i3_r3⟩ := Hi_r3.out.cells
           obtain ⟨p0_r3, p1_r3, p2_r3, p3_r3⟩ := Hp_r3.out.cells
           obtain ⟨l0_r3, l1_r3, l2_r3, l3_r3⟩ := Hl_r3.out.cells
           obtain ⟨a0_r3, a1_r3, a2_r3, a3_r3⟩ := Ha_r3.out.cells
           have lti_r3 := Hi_r3.out.lt
           have ltp_r3 := Hp_r3.out.lt
           have ltl_r3 := Hl_r3.out.lt
           have lta_r3 := Ha_r3.out.lt
           clear hb3))
  go_wp2_with fail
  go_ret
  exact ⟨ret_bool (by simp), HW_r3.out⟩
theorem dfaLaws_law (a b : D) (An Aa Bn Ba A : Option Addr) (an aa bn ba cw : Nat) (ws : List Int) (w : World) (ha : DIn w a An Aa) (hb : DIn w b Bn Ba) (hw : WIn w ws A) :
    Calls Try.prog 8 #[dfaV a.K a.S An a.N.length an Aa a.A.length aa, dfaV b.K b.S Bn b.N.length bn Ba b.A.length ba, .slice A ws.length cw] w (Ret (.bool true) w) := by
  rcases ga : a.great with _ | _
  · rcases gb : b.great with _ | _
    · rcases ra : a.right with _ | _
      · exact dfaLaws_ra a b An Aa Bn Ba A an aa bn ba cw ws w ha hb hw ga gb ra
      · rcases rb : b.right with _ | _
        · exact dfaLaws_rb a b An Aa Bn Ba A an aa bn ba cw ws w ha hb hw ga gb ra rb
        · rcases hk : a.K != b.K with _ | _
          · by_cases hl : 200 < ws.length
            · exact dfaLaws_long a b An Aa Bn Ba A an aa bn ba cw ws w ha hb hw ga gb ra rb hk hl
            · exact dfaLaws_main a b An Aa Bn Ba A an aa bn ba cw ws w ha hb hw ga gb ra rb hk hl
          · exact dfaLaws_kk a b An Aa Bn Ba A an aa bn ba cw ws w ha hb hw ga gb ra rb hk
    · exact dfaLaws_gb a b An Aa Bn Ba A an aa bn ba cw ws w ha hb hw ga gb
  · exact dfaLaws_ga a b An Aa Bn Ba A an aa bn ba cw ws w ha hb hw ga
end Go.Proofs.Ytmpcoclgcldclaa
