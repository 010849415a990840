/- The walk of the law DfaWords. -/
import Derived.Test.YtmpcoclgcldclaaX
import Derived.Test.YtmpcoclgcldclaaAP
import Derived.Handy
namespace Go.Proofs.Ytmpcoclgcldclaa
open Go.RowKit
attribute [local go_sem ↓] Go.wp_at_zero Go.wp_at_succ

theorem word_c {w : World} {ws : List Int} {A : Option Addr} (hw : WIn w ws A) (hl : ws.length ≤ 60000) (k : Int) (cw : Nat) : Calls Try.prog 31 #[.int .i64 k, .slice A ws.length cw] w (Gives w (chD k ws false) (chE k ws)) := word_any k ws A cw w hl hw.r
theorem begins_c {w : World} {ws : List Int} {A : Option Addr} (hw : WIn w ws A) (hl : ws.length ≤ 60000) (k : Int) (cw : Nat) : Calls Try.prog 32 #[.int .i64 k, .slice A ws.length cw] w (Gives w (chD k ws true) (chE k ws)) := begins_any k ws A cw w hl hw.r
theorem refBegins_c {w : World} {ws pre : List Int} {A Ap : Option Addr} (hw : WIn w ws A) (hp : WIn w pre Ap) (cw cp : Nat) : Calls Try.prog 36 #[.slice A ws.length cw, .slice Ap pre.length cp] w (Ret (.bool (beginsB ws pre)) w) :=
  (refBegins_any ws pre A Ap cw cp w hw.l hp.l hw.r hp.r).mono fun e w' ⟨he, n, hn⟩ => ⟨he, by rw [hn]; exact bel_drewN (Below.refl _ _) n⟩
theorem chD_no {k : Int} {ws : List Int} {st : Bool} (h : ¬ (1 ≤ k ∧ k ≤ 512 ∧ symsB k ws = true)) : chD k ws st = zeroD ∧ chE k ws = 151 := by
  have hok : chOk k ws = false := by
    rcases hb : chOk k ws with _ | _
    · rfl
    · simp [chOk] at hb
      exact absurd ⟨hb.1.1, hb.1.2, hb.2⟩ h
  unfold chD chE
  rw [hok]
  exact ⟨rfl, rfl⟩
theorem chD_yes {k : Nat} {ws : List Int} {st : Bool} (h1 : 1 ≤ k) (h2 : k ≤ 512) (h3 : symsB k ws = true) : chD k ws st = chainD k ws st ∧ chE k ws = 0 := by
  have hok : chOk k ws = true := by simp [chOk, h3]; omega
  unfold chD chE
  rw [hok]
  exact ⟨by rw [if_pos rfl, Int.toNat_natCast], rfl⟩
theorem symsB_append (k : Int) (u v : List Int) : symsB k (u ++ v) = (symsB k u && symsB k v) := by simp [symsB, List.all_append]
theorem beginsB_append (u v : List Int) : beginsB (u ++ v) u = true := decide_eq_true (by simp)
theorem beginsB_self (u : List Int) : beginsB u u = true := decide_eq_true (by simp)

set_option maxHeartbeats 8000000 in
set_option maxRecDepth 100000 in
theorem dfaWords_long (k : Int) (A A2 : Option Addr) (cw cw2 : Nat) (ws other : List Int) (w : World) (hw : WIn w ws A) (ho : WIn w other A2) (h : 40 < ws.length) :
    Calls Try.prog 4 #[.int .i64 k, .slice A ws.length cw, .slice A2 other.length cw2] w (Ret (.bool true) w) := by
  have Ww := Lib.hid hw
  have Wo := Lib.hid ho
  have HW := Lib.hid (Below.refl w.heap.size w)
  clear hw ho
  go_enter Try.func4, Try.ntmps4
  go_wp2_with fail
  refine (alive_c _).mono ?_
  rintro e w1 ⟨rfl, hb⟩
  replace Ww := Lib.hid (Ww.out.up hb)
  replace Wo := Lib.hid (Wo.out.up hb)
  replace HW := Lib.hid (bel_step HW.out hb)
  clear hb
  go_wp2_with fail
  go_ret
  exact ⟨rfl, HW.out⟩
set_option maxHeartbeats 8000000 in
set_option maxRecDepth 100000 in
theorem dfaWords_long2 (k : Int) (A A2 : Option Addr) (cw cw2 : Nat) (ws other : List Int) (w : World) (hw : WIn w ws A) (ho : WIn w other A2) (h0 : ¬ 40 < ws.length) (h : 60 < other.length) :
    Calls Try.prog 4 #[.int .i64 k, .slice A ws.length cw, .slice A2 other.length cw2] w (Ret (.bool true) w) := by
  have Ww := Lib.hid hw
  have Wo := Lib.hid ho
  have HW := Lib.hid (Below.refl w.heap.size w)
  clear hw ho
  go_enter Try.func4, Try.ntmps4
  go_wp2_with fail
  refine (alive_c _).mono ?_
  rintro e w1 ⟨rfl, hb⟩
  replace Ww := Lib.hid (Ww.out.up hb)
  replace Wo := Lib.hid (Wo.out.up hb)
  replace HW := Lib.hid (bel_step HW.out hb)
  clear hb
  go_wp2_with fail
  go_ret
  exact ⟨rfl, HW.out⟩
set_option maxHeartbeats 8000000 in
set_option maxRecDepth 100000 in
theorem dfaWords_many (k : Int) (A A2 : Option Addr) (cw cw2 : Nat) (ws other : List Int) (w : World) (hw : WIn w ws A) (ho : WIn w other A2) (h0 : ¬ 40 < ws.length) (h : ¬ 60 < other.length) (h1 : 40 < k) (h2 : k ≤ 512) :
    Calls Try.prog 4 #[.int .i64 k, .slice A ws.length cw, .slice A2 other.length cw2] w (Ret (.bool true) w) := by
  have Ww := Lib.hid hw
  have Wo := Lib.hid ho
  have HW := Lib.hid (Below.refl w.heap.size w)
  clear hw ho
  go_enter Try.func4, Try.ntmps4
  go_wp2_with fail
  refine (alive_c _).mono ?_
  rintro e w1 ⟨rfl, hb⟩
  replace Ww := Lib.hid (Ww.out.up hb)
  replace Wo := Lib.hid (Wo.out.up hb)
  replace HW := Lib.hid (bel_step HW.out hb)
  clear hb
  go_wp2_with fail
  go_ret
  exact ⟨rfl, HW.out⟩
set_option maxHeartbeats 8000000 in
set_option maxRecDepth 100000 in
theorem dfaWords_small (k : Int) (A A2 : Option Addr) (cw cw2 : Nat) (ws other : List Int) (w : World) (hw : WIn w ws A) (ho : WIn w other A2) (h0 : ¬ 40 < ws.length) (h : ¬ 60 < other.length) (h1 : k < 1) :
    Calls Try.prog 4 #[.int .i64 k, .slice A ws.length cw, .slice A2 other.length cw2] w (Ret (.bool true) w) := by
  have cW := fun (W : World) (h : WIn W ws A) => word_c h (by omega) k cw
  have cB := fun (W : World) (h : WIn W ws A) => begins_c h (by omega) k cw
  have cN := fun (W : World) => none_any k W
  have hno : ¬ (1 ≤ k ∧ k ≤ 512 ∧ symsB k ws = true) := by omega
  rw [(chD_no (st := false) hno).1, (chD_no (st := false) hno).2] at cW
  rw [(chD_no (st := true) hno).1, (chD_no (st := true) hno).2] at cB
  rw [show noneD k = zeroD from if_neg (by omega), show noneE k = 151 from if_neg (by omega)] at cN
  have CW := Lib.hid cW; have CB := Lib.hid cB; have CN := Lib.hid cN
  clear cW cB cN hno
  have Ww := Lib.hid hw
  have Wo := Lib.hid ho
  have HW := Lib.hid (Below.refl w.heap.size w)
  clear hw ho
  go_enter Try.func4, Try.ntmps4
  go_wp2_with fail
  refine (alive_c _).mono ?_
  rintro e w1 ⟨rfl, hb⟩
  replace Ww := Lib.hid (Ww.out.up hb)
  replace Wo := Lib.hid (Wo.out.up hb)
  replace HW := Lib.hid (bel_step HW.out hb)
  clear hb
  go_wp2_with fail
  refine (CW.out _ Ww.out).mono ?_
  rintro e w2 ⟨v, rfl, hx, hb⟩
  replace Ww := Lib.hid (Ww.out.up hb)
  replace Wo := Lib.hid (Wo.out.up hb)
  replace HW := Lib.hid (bel_step HW.out hb)
  clear hb
  obtain ⟨An, an, Aa, aa, rfl, da⟩ := hx.din (by simp [zeroD])
  clear hx
  have Ha := Lib.hid (HasD.new da an aa)
  replace Ww := Lib.hid (Ww.out.alloc (.cells #[.int .i64 zeroD.K, .int .i64 zeroD.S, .slice An zeroD.N.length an, .slice Aa zeroD.A.length aa] 25))
  replace Wo := Lib.hid (Wo.out.alloc (.cells #[.int .i64 zeroD.K, .int .i64 zeroD.S, .slice An zeroD.N.length an, .slice Aa zeroD.A.length aa] 25))
  replace HW := Lib.hid (bel_alloc HW.out (.cells #[.int .i64 zeroD.K, .int .i64 zeroD.S, .slice An zeroD.N.length an, .slice Aa zeroD.A.length aa] 25))
  clear da
  go_wp2_with fail
  refine (CB.out _ Ww.out).mono ?_
  rintro e w3 ⟨v, rfl, hx, hb⟩
  replace Ha := Lib.hid (Ha.out.up hb)
  replace Ww := Lib.hid (Ww.out.up hb)
  replace Wo := Lib.hid (Wo.out.up hb)
  replace HW := Lib.hid (bel_step HW.out hb)
  clear hb
  obtain ⟨Bn, bn, Ba, ba, rfl, db⟩ := hx.din (by simp [zeroD])
  clear hx
  obtain ⟨a0, a1, a2, a3⟩ := Ha.out.cells
  have lta := Ha.out.lt
  have Hb := Lib.hid (HasD.new db bn ba)
  replace Ha := Lib.hid (Ha.out.alloc (.cells #[.int .i64 zeroD.K, .int .i64 zeroD.S, .slice Bn zeroD.N.length bn, .slice Ba zeroD.A.length ba] 25))
  replace Ww := Lib.hid (Ww.out.alloc (.cells #[.int .i64 zeroD.K, .int .i64 zeroD.S, .slice Bn zeroD.N.length bn, .slice Ba zeroD.A.length ba] 25))
  replace Wo := Lib.hid (Wo.out.alloc (.cells #[.int .i64 zeroD.K, .int .i64 zeroD.S, .slice Bn zeroD.N.length bn, .slice Ba zeroD.A.length ba] 25))
  replace HW := Lib.hid (bel_alloc HW.out (.cells #[.int .i64 zeroD.K, .int .i64 zeroD.S, .slice Bn zeroD.N.length bn, .slice Ba zeroD.A.length ba] 25))
  clear db
  go_wp2_with fail
  refine (CN.out _).mono ?_
  rintro e w4 ⟨v, rfl, hx, hb⟩
  replace Ha := Lib.hid (Ha.out.up hb)
  replace Hb := Lib.hid (Hb.out.up hb)
  replace Ww := Lib.hid (Ww.out.up hb)
  replace Wo := Lib.hid (Wo.out.up hb)
  replace HW := Lib.hid (bel_step HW.out hb)
  clear a0 a1 a2 a3 lta
  clear hb
  obtain ⟨Cn, cn, Ca, ca, rfl, dc⟩ := hx.din (by simp [zeroD])
  clear hx
  obtain ⟨a0, a1, a2, a3⟩ := Ha.out.cells
  have lta := Ha.out.lt
  obtain ⟨b0, b1, b2, b3⟩ := Hb.out.cells
  have ltb := Hb.out.lt
  have Hc := Lib.hid (HasD.new dc cn ca)
  replace Ha := Lib.hid (Ha.out.alloc (.cells #[.int .i64 zeroD.K, .int .i64 zeroD.S, .slice Cn zeroD.N.length cn, .slice Ca zeroD.A.length ca] 25))
  replace Hb := Lib.hid (Hb.out.alloc (.cells #[.int .i64 zeroD.K, .int .i64 zeroD.S, .slice Cn zeroD.N.length cn, .slice Ca zeroD.A.length ca] 25))
  replace Ww := Lib.hid (Ww.out.alloc (.cells #[.int .i64 zeroD.K, .int .i64 zeroD.S, .slice Cn zeroD.N.length cn, .slice Ca zeroD.A.length ca] 25))
  replace Wo := Lib.hid (Wo.out.alloc (.cells #[.int .i64 zeroD.K, .int .i64 zeroD.S, .slice Cn zeroD.N.length cn, .slice Ca zeroD.A.length ca] 25))
  replace HW := Lib.hid (bel_alloc HW.out (.cells #[.int .i64 zeroD.K, .int .i64 zeroD.S, .slice Cn zeroD.N.length cn, .slice Ca zeroD.A.length ca] 25))
  clear dc
  go_wp2_with fail
  refine (zero_c zeroD Cn Ca cn ca _).mono ?_
  rintro e w5 ⟨rfl, hb⟩
  replace Ha := Lib.hid (Ha.out.up hb)
  replace Hb := Lib.hid (Hb.out.up hb)
  replace Hc := Lib.hid (Hc.out.up hb)
  replace Ww := Lib.hid (Ww.out.up hb)
  replace Wo := Lib.hid (Wo.out.up hb)
  replace HW := Lib.hid (bel_step HW.out hb)
  clear a0 a1 a2 a3 lta
  clear b0 b1 b2 b3 ltb
  clear hb
  obtain ⟨a0, a1, a2, a3⟩ := Ha.out.cells
  have lta := Ha.out.lt
  obtain ⟨b0, b1, b2, b3⟩ := Hb.out.cells
  have ltb := Hb.out.lt
  obtain ⟨c0, c1, c2, c3⟩ := Hc.out.cells
  have ltc := Hc.out.lt
  rw [zeroD_zero]
  go_wp2_with fail
  refine (zero_c zeroD An Aa an aa _).mono ?_
  rintro e w6 ⟨rfl, hb⟩
  replace Ha := Lib.hid (Ha.out.up hb)
  replace Hb := Lib.hid (Hb.out.up hb)
  replace Hc := Lib.hid (Hc.out.up hb)
  replace Ww := Lib.hid (Ww.out.up hb)
  replace Wo := Lib.hid (Wo.out.up hb)
  replace HW := Lib.hid (bel_step HW.out hb)
  clear a0 a1 a2 a3 lta
  clear b0 b1 b2 b3 ltb
  clear c0 c1 c2 c3 ltc
  clear hb
  obtain ⟨a0, a1, a2, a3⟩ := Ha.out.cells
  have lta := Ha.out.lt
  obtain ⟨b0, b1, b2, b3⟩ := Hb.out.cells
  have ltb := Hb.out.lt
  obtain ⟨c0, c1, c2, c3⟩ := Hc.out.cells
  have ltc := Hc.out.lt
  rw [zeroD_zero]
  go_wp2_with fail
  refine (zero_c zeroD Bn Ba bn ba _).mono ?_
  rintro e w7 ⟨rfl, hb⟩
  replace Ha := Lib.hid (Ha.out.up hb)
  replace Hb := Lib.hid (Hb.out.up hb)
  replace Hc := Lib.hid (Hc.out.up hb)
  replace Ww := Lib.hid (Ww.out.up hb)
  replace Wo := Lib.hid (Wo.out.up hb)
  replace HW := Lib.hid (bel_step HW.out hb)
  clear a0 a1 a2 a3 lta
  clear b0 b1 b2 b3 ltb
  clear c0 c1 c2 c3 ltc
  clear hb
  obtain ⟨a0, a1, a2, a3⟩ := Ha.out.cells
  have lta := Ha.out.lt
  obtain ⟨b0, b1, b2, b3⟩ := Hb.out.cells
  have ltb := Hb.out.lt
  obtain ⟨c0, c1, c2, c3⟩ := Hc.out.cells
  have ltc := Hc.out.lt
  rw [zeroD_zero]
  go_wp2_with fail
  go_ret
  exact ⟨rfl, HW.out⟩
set_option maxHeartbeats 8000000 in
set_option maxRecDepth 100000 in
theorem dfaWords_big (k : Int) (A A2 : Option Addr) (cw cw2 : Nat) (ws other : List Int) (w : World) (hw : WIn w ws A) (ho : WIn w other A2) (h0 : ¬ 40 < ws.length) (h : ¬ 60 < other.length) (h1 : 512 < k) :
    Calls Try.prog 4 #[.int .i64 k, .slice A ws.length cw, .slice A2 other.length cw2] w (Ret (.bool true) w) := by
  have cW := fun (W : World) (h : WIn W ws A) => word_c h (by omega) k cw
  have cB := fun (W : World) (h : WIn W ws A) => begins_c h (by omega) k cw
  have cN := fun (W : World) => none_any k W
  have hno : ¬ (1 ≤ k ∧ k ≤ 512 ∧ symsB k ws = true) := by omega
  rw [(chD_no (st := false) hno).1, (chD_no (st := false) hno).2] at cW
  rw [(chD_no (st := true) hno).1, (chD_no (st := true) hno).2] at cB
  rw [show noneD k = zeroD from if_neg (by omega), show noneE k = 151 from if_neg (by omega)] at cN
  have CW := Lib.hid cW; have CB := Lib.hid cB; have CN := Lib.hid cN
  clear cW cB cN hno
  have Ww := Lib.hid hw
  have Wo := Lib.hid ho
  have HW := Lib.hid (Below.refl w.heap.size w)
  clear hw ho
  go_enter Try.func4, Try.ntmps4
  go_wp2_with fail
  refine (alive_c _).mono ?_
  rintro e w1 ⟨rfl, hb⟩
  replace Ww := Lib.hid (Ww.out.up hb)
  replace Wo := Lib.hid (Wo.out.up hb)
  replace HW := Lib.hid (bel_step HW.out hb)
  clear hb
  go_wp2_with fail
  refine (CW.out _ Ww.out).mono ?_
  rintro e w2 ⟨v, rfl, hx, hb⟩
  replace Ww := Lib.hid (Ww.out.up hb)
  replace Wo := Lib.hid (Wo.out.up hb)
  replace HW := Lib.hid (bel_step HW.out hb)
  clear hb
  obtain ⟨An, an, Aa, aa, rfl, da⟩ := hx.din (by simp [zeroD])
  clear hx
  have Ha := Lib.hid (HasD.new da an aa)
  replace Ww := Lib.hid (Ww.out.alloc (.cells #[.int .i64 zeroD.K, .int .i64 zeroD.S, .slice An zeroD.N.length an, .slice Aa zeroD.A.length aa] 25))
  replace Wo := Lib.hid (Wo.out.alloc (.cells #[.int .i64 zeroD.K, .int .i64 zeroD.S, .slice An zeroD.N.length an, .slice Aa zeroD.A.length aa] 25))
  replace HW := Lib.hid (bel_alloc HW.out (.cells #[.int .i64 zeroD.K, .int .i64 zeroD.S, .slice An zeroD.N.length an, .slice Aa zeroD.A.length aa] 25))
  clear da
  go_wp2_with fail
  refine (CB.out _ Ww.out).mono ?_
  rintro e w3 ⟨v, rfl, hx, hb⟩
  replace Ha := Lib.hid (Ha.out.up hb)
  replace Ww := Lib.hid (Ww.out.up hb)
  replace Wo := Lib.hid (Wo.out.up hb)
  replace HW := Lib.hid (bel_step HW.out hb)
  clear hb
  obtain ⟨Bn, bn, Ba, ba, rfl, db⟩ := hx.din (by simp [zeroD])
  clear hx
  obtain ⟨a0, a1, a2, a3⟩ := Ha.out.cells
  have lta := Ha.out.lt
  have Hb := Lib.hid (HasD.new db bn ba)
  replace Ha := Lib.hid (Ha.out.alloc (.cells #[.int .i64 zeroD.K, .int .i64 zeroD.S, .slice Bn zeroD.N.length bn, .slice Ba zeroD.A.length ba] 25))
  replace Ww := Lib.hid (Ww.out.alloc (.cells #[.int .i64 zeroD.K, .int .i64 zeroD.S, .slice Bn zeroD.N.length bn, .slice Ba zeroD.A.length ba] 25))
  replace Wo := Lib.hid (Wo.out.alloc (.cells #[.int .i64 zeroD.K, .int .i64 zeroD.S, .slice Bn zeroD.N.length bn, .slice Ba zeroD.A.length ba] 25))
  replace HW := Lib.hid (bel_alloc HW.out (.cells #[.int .i64 zeroD.K, .int .i64 zeroD.S, .slice Bn zeroD.N.length bn, .slice Ba zeroD.A.length ba] 25))
  clear db
  go_wp2_with fail
  refine (CN.out _).mono ?_
  rintro e w4 ⟨v, rfl, hx, hb⟩
  replace Ha := Lib.hid (Ha.out.up hb)
  replace Hb := Lib.hid (Hb.out.up hb)
  replace Ww := Lib.hid (Ww.out.up hb)
  replace Wo := Lib.hid (Wo.out.up hb)
  replace HW := Lib.hid (bel_step HW.out hb)
  clear a0 a1 a2 a3 lta
  clear hb
  obtain ⟨Cn, cn, Ca, ca, rfl, dc⟩ := hx.din (by simp [zeroD])
  clear hx
  obtain ⟨a0, a1, a2, a3⟩ := Ha.out.cells
  have lta := Ha.out.lt
  obtain ⟨b0, b1, b2, b3⟩ := Hb.out.cells
  have ltb := Hb.out.lt
  have Hc := Lib.hid (HasD.new dc cn ca)
  replace Ha := Lib.hid (Ha.out.alloc (.cells #[.int .i64 zeroD.K, .int .i64 zeroD.S, .slice Cn zeroD.N.length cn, .slice Ca zeroD.A.length ca] 25))
  replace Hb := Lib.hid (Hb.out.alloc (.cells #[.int .i64 zeroD.K, .int .i64 zeroD.S, .slice Cn zeroD.N.length cn, .slice Ca zeroD.A.length ca] 25))
  replace Ww := Lib.hid (Ww.out.alloc (.cells #[.int .i64 zeroD.K, .int .i64 zeroD.S, .slice Cn zeroD.N.length cn, .slice Ca zeroD.A.length ca] 25))
  replace Wo := Lib.hid (Wo.out.alloc (.cells #[.int .i64 zeroD.K, .int .i64 zeroD.S, .slice Cn zeroD.N.length cn, .slice Ca zeroD.A.length ca] 25))
  replace HW := Lib.hid (bel_alloc HW.out (.cells #[.int .i64 zeroD.K, .int .i64 zeroD.S, .slice Cn zeroD.N.length cn, .slice Ca zeroD.A.length ca] 25))
  clear dc
  go_wp2_with fail
  refine (zero_c zeroD Cn Ca cn ca _).mono ?_
  rintro e w5 ⟨rfl, hb⟩
  replace Ha := Lib.hid (Ha.out.up hb)
  replace Hb := Lib.hid (Hb.out.up hb)
  replace Hc := Lib.hid (Hc.out.up hb)
  replace Ww := Lib.hid (Ww.out.up hb)
  replace Wo := Lib.hid (Wo.out.up hb)
  replace HW := Lib.hid (bel_step HW.out hb)
  clear a0 a1 a2 a3 lta
  clear b0 b1 b2 b3 ltb
  clear hb
  obtain ⟨a0, a1, a2, a3⟩ := Ha.out.cells
  have lta := Ha.out.lt
  obtain ⟨b0, b1, b2, b3⟩ := Hb.out.cells
  have ltb := Hb.out.lt
  obtain ⟨c0, c1, c2, c3⟩ := Hc.out.cells
  have ltc := Hc.out.lt
  rw [zeroD_zero]
  go_wp2_with fail
  refine (zero_c zeroD An Aa an aa _).mono ?_
  rintro e w6 ⟨rfl, hb⟩
  replace Ha := Lib.hid (Ha.out.up hb)
  replace Hb := Lib.hid (Hb.out.up hb)
  replace Hc := Lib.hid (Hc.out.up hb)
  replace Ww := Lib.hid (Ww.out.up hb)
  replace Wo := Lib.hid (Wo.out.up hb)
  replace HW := Lib.hid (bel_step HW.out hb)
  clear a0 a1 a2 a3 lta
  clear b0 b1 b2 b3 ltb
  clear c0 c1 c2 c3 ltc
  clear hb
  obtain ⟨a0, a1, a2, a3⟩ := Ha.out.cells
  have lta := Ha.out.lt
  obtain ⟨b0, b1, b2, b3⟩ := Hb.out.cells
  have ltb := Hb.out.lt
  obtain ⟨c0, c1, c2, c3⟩ := Hc.out.cells
  have ltc := Hc.out.lt
  rw [zeroD_zero]
  go_wp2_with fail
  refine (zero_c zeroD Bn Ba bn ba _).mono ?_
  rintro e w7 ⟨rfl, hb⟩
  replace Ha := Lib.hid (Ha.out.up hb)
  replace Hb := Lib.hid (Hb.out.up hb)
  replace Hc := Lib.hid (Hc.out.up hb)
  replace Ww := Lib.hid (Ww.out.up hb)
  replace Wo := Lib.hid (Wo.out.up hb)
  replace HW := Lib.hid (bel_step HW.out hb)
  clear a0 a1 a2 a3 lta
  clear b0 b1 b2 b3 ltb
  clear c0 c1 c2 c3 ltc
  clear hb
  obtain ⟨a0, a1, a2, a3⟩ := Ha.out.cells
  have lta := Ha.out.lt
  obtain ⟨b0, b1, b2, b3⟩ := Hb.out.cells
  have ltb := Hb.out.lt
  obtain ⟨c0, c1, c2, c3⟩ := Hc.out.cells
  have ltc := Hc.out.lt
  rw [zeroD_zero]
  go_wp2_with fail
  go_ret
  exact ⟨rfl, HW.out⟩
set_option maxHeartbeats 8000000 in
set_option maxRecDepth 100000 in
theorem dfaWords_nosym (k : Nat) (A A2 : Option Addr) (cw cw2 : Nat) (ws other : List Int) (w : World) (hw : WIn w ws A) (ho : WIn w other A2) (h0 : ¬ 40 < ws.length) (h : ¬ 60 < other.length) (h1 : 1 ≤ k) (h2 : k ≤ 40) (hs : symsB k ws = false) :
    Calls Try.prog 4 #[.int .i64 k, .slice A ws.length cw, .slice A2 other.length cw2] w (Ret (.bool true) w) := by
  have cW := fun (W : World) (h : WIn W ws A) => word_c h (by omega) k cw
  have cB := fun (W : World) (h : WIn W ws A) => begins_c h (by omega) k cw
  have cN := fun (W : World) => none_any k W
  have hno : ¬ (1 ≤ (k : Int) ∧ (k : Int) ≤ 512 ∧ symsB k ws = true) := fun h => by rw [hs] at h; cases h.2.2
  rw [(chD_no (st := false) hno).1, (chD_no (st := false) hno).2] at cW
  rw [(chD_no (st := true) hno).1, (chD_no (st := true) hno).2] at cB
  rw [show noneD k = { K := k, S := 0, N := List.replicate k 0, A := [false] } from (if_pos (by omega)).trans (by simp), show noneE k = 0 from if_pos (by omega)] at cN
  obtain ⟨c, hc⟩ : ∃ c : D, c = { K := k, S := 0, N := List.replicate k 0, A := [false] } := ⟨_, rfl⟩
  rw [← hc] at cN
  have hcn : c.N.length = k := by rw [hc]; simp
  have hca : c.A.length = 1 := by rw [hc]; rfl
  have hck : (c.K != (k : Int)) = false := by rw [hc]; simp
  have hca1 : (((c.A.length : Nat) : Int) != 1) = false := by rw [hca]; rfl
  have hcn' : c.N.length ≤ 1000 := by omega
  have hca' : c.A.length ≤ 1000 := by omega
  clear hcn hca
  have CW := Lib.hid cW; have CB := Lib.hid cB; have CN := Lib.hid cN
  clear cW cB cN hno
  have HS := Lib.hid hs
  clear hs hc hck hca1
  have Ww := Lib.hid hw
  have Wo := Lib.hid ho
  have HW := Lib.hid (Below.refl w.heap.size w)
  clear hw ho
  go_enter Try.func4, Try.ntmps4
  go_wp2_with fail
  refine (alive_c _).mono ?_
  rintro e w1 ⟨rfl, hb⟩
  replace Ww := Lib.hid (Ww.out.up hb)
  replace Wo := Lib.hid (Wo.out.up hb)
  replace HW := Lib.hid (bel_step HW.out hb)
  clear hb
  go_wp2_with fail
  refine (CW.out _ Ww.out).mono ?_
  rintro e w2 ⟨v, rfl, hx, hb⟩
  replace Ww := Lib.hid (Ww.out.up hb)
  replace Wo := Lib.hid (Wo.out.up hb)
  replace HW := Lib.hid (bel_step HW.out hb)
  clear hb
  obtain ⟨An, an, Aa, aa, rfl, da⟩ := hx.din (by simp [zeroD])
  clear hx
  have Ha := Lib.hid (HasD.new da an aa)
  replace Ww := Lib.hid (Ww.out.alloc (.cells #[.int .i64 zeroD.K, .int .i64 zeroD.S, .slice An zeroD.N.length an, .slice Aa zeroD.A.length aa] 25))
  replace Wo := Lib.hid (Wo.out.alloc (.cells #[.int .i64 zeroD.K, .int .i64 zeroD.S, .slice An zeroD.N.length an, .slice Aa zeroD.A.length aa] 25))
  replace HW := Lib.hid (bel_alloc HW.out (.cells #[.int .i64 zeroD.K, .int .i64 zeroD.S, .slice An zeroD.N.length an, .slice Aa zeroD.A.length aa] 25))
  clear da
  go_wp2_with fail
  refine (CB.out _ Ww.out).mono ?_
  rintro e w3 ⟨v, rfl, hx, hb⟩
  replace Ha := Lib.hid (Ha.out.up hb)
  replace Ww := Lib.hid (Ww.out.up hb)
  replace Wo := Lib.hid (Wo.out.up hb)
  replace HW := Lib.hid (bel_step HW.out hb)
  clear hb
  obtain ⟨Bn, bn, Ba, ba, rfl, db⟩ := hx.din (by simp [zeroD])
  clear hx
  obtain ⟨a0, a1, a2, a3⟩ := Ha.out.cells
  have lta := Ha.out.lt
  have Hb := Lib.hid (HasD.new db bn ba)
  replace Ha := Lib.hid (Ha.out.alloc (.cells #[.int .i64 zeroD.K, .int .i64 zeroD.S, .slice Bn zeroD.N.length bn, .slice Ba zeroD.A.length ba] 25))
  replace Ww := Lib.hid (Ww.out.alloc (.cells #[.int .i64 zeroD.K, .int .i64 zeroD.S, .slice Bn zeroD.N.length bn, .slice Ba zeroD.A.length ba] 25))
  replace Wo := Lib.hid (Wo.out.alloc (.cells #[.int .i64 zeroD.K, .int .i64 zeroD.S, .slice Bn zeroD.N.length bn, .slice Ba zeroD.A.length ba] 25))
  replace HW := Lib.hid (bel_alloc HW.out (.cells #[.int .i64 zeroD.K, .int .i64 zeroD.S, .slice Bn zeroD.N.length bn, .slice Ba zeroD.A.length ba] 25))
  clear db
  go_wp2_with fail
  refine (CN.out _).mono ?_
  rintro e w4 ⟨v, rfl, hx, hb⟩
  replace Ha := Lib.hid (Ha.out.up hb)
  replace Hb := Lib.hid (Hb.out.up hb)
  replace Ww := Lib.hid (Ww.out.up hb)
  replace Wo := Lib.hid (Wo.out.up hb)
  replace HW := Lib.hid (bel_step HW.out hb)
  clear a0 a1 a2 a3 lta
  clear hb
  obtain ⟨Cn, cn, Ca, ca, rfl, dc⟩ := hx.din (by omega)
  clear hx
  obtain ⟨a0, a1, a2, a3⟩ := Ha.out.cells
  have lta := Ha.out.lt
  obtain ⟨b0, b1, b2, b3⟩ := Hb.out.cells
  have ltb := Hb.out.lt
  have Hc := Lib.hid (HasD.new dc cn ca)
  replace Ha := Lib.hid (Ha.out.alloc (.cells #[.int .i64 c.K, .int .i64 c.S, .slice Cn c.N.length cn, .slice Ca c.A.length ca] 25))
  replace Hb := Lib.hid (Hb.out.alloc (.cells #[.int .i64 c.K, .int .i64 c.S, .slice Cn c.N.length cn, .slice Ca c.A.length ca] 25))
  replace Ww := Lib.hid (Ww.out.alloc (.cells #[.int .i64 c.K, .int .i64 c.S, .slice Cn c.N.length cn, .slice Ca c.A.length ca] 25))
  replace Wo := Lib.hid (Wo.out.alloc (.cells #[.int .i64 c.K, .int .i64 c.S, .slice Cn c.N.length cn, .slice Ca c.A.length ca] 25))
  replace HW := Lib.hid (bel_alloc HW.out (.cells #[.int .i64 c.K, .int .i64 c.S, .slice Cn c.N.length cn, .slice Ca c.A.length ca] 25))
  clear dc
  go_wp2_with fail
  refine (symbols_c k Ww.out cw).mono ?_
  rintro e w5 ⟨rfl, hb⟩
  replace Ha := Lib.hid (Ha.out.up hb)
  replace Hb := Lib.hid (Hb.out.up hb)
  replace Hc := Lib.hid (Hc.out.up hb)
  replace Ww := Lib.hid (Ww.out.up hb)
  replace Wo := Lib.hid (Wo.out.up hb)
  replace HW := Lib.hid (bel_step HW.out hb)
  clear a0 a1 a2 a3 lta
  clear b0 b1 b2 b3 ltb
  clear hb
  obtain ⟨a0, a1, a2, a3⟩ := Ha.out.cells
  have lta := Ha.out.lt
  obtain ⟨b0, b1, b2, b3⟩ := Hb.out.cells
  have ltb := Hb.out.lt
  obtain ⟨c0, c1, c2, c3⟩ := Hc.out.cells
  have ltc := Hc.out.lt
  rw [HS.out]
  go_wp2_with fail
  refine (zero_c zeroD An Aa an aa _).mono ?_
  rintro e w6 ⟨rfl, hb⟩
  replace Ha := Lib.hid (Ha.out.up hb)
  replace Hb := Lib.hid (Hb.out.up hb)
  replace Hc := Lib.hid (Hc.out.up hb)
  replace Ww := Lib.hid (Ww.out.up hb)
  replace Wo := Lib.hid (Wo.out.up hb)
  replace HW := Lib.hid (bel_step HW.out hb)
  clear a0 a1 a2 a3 lta
  clear b0 b1 b2 b3 ltb
  clear c0 c1 c2 c3 ltc
  clear hb
  obtain ⟨a0, a1, a2, a3⟩ := Ha.out.cells
  have lta := Ha.out.lt
  obtain ⟨b0, b1, b2, b3⟩ := Hb.out.cells
  have ltb := Hb.out.lt
  obtain ⟨c0, c1, c2, c3⟩ := Hc.out.cells
  have ltc := Hc.out.lt
  rw [zeroD_zero]
  go_wp2_with fail
  refine (zero_c zeroD Bn Ba bn ba _).mono ?_
  rintro e w7 ⟨rfl, hb⟩
  replace Ha := Lib.hid (Ha.out.up hb)
  replace Hb := Lib.hid (Hb.out.up hb)
  replace Hc := Lib.hid (Hc.out.up hb)
  replace Ww := Lib.hid (Ww.out.up hb)
  replace Wo := Lib.hid (Wo.out.up hb)
  replace HW := Lib.hid (bel_step HW.out hb)
  clear a0 a1 a2 a3 lta
  clear b0 b1 b2 b3 ltb
  clear c0 c1 c2 c3 ltc
  clear hb
  obtain ⟨a0, a1, a2, a3⟩ := Ha.out.cells
  have lta := Ha.out.lt
  obtain ⟨b0, b1, b2, b3⟩ := Hb.out.cells
  have ltb := Hb.out.lt
  obtain ⟨c0, c1, c2, c3⟩ := Hc.out.cells
  have ltc := Hc.out.lt
  rw [zeroD_zero]
  go_wp2_with fail
  go_ret
  exact ⟨rfl, HW.out⟩
set_option maxHeartbeats 32000000 in
set_option maxRecDepth 100000 in
theorem dfaWords_yes (k : Nat) (A A2 : Option Addr) (cw cw2 : Nat) (ws other : List Int) (w : World) (hw : WIn w ws A) (ho : WIn w other A2) (h0 : ¬ 40 < ws.length) (h : ¬ 60 < other.length) (h1 : 1 ≤ k) (h2 : k ≤ 40) (hs : symsB k ws = true) :
    Calls Try.prog 4 #[.int .i64 k, .slice A ws.length cw, .slice A2 other.length cw2] w (Ret (.bool true) w) := by
  have cW := fun (W : World) (h : WIn W ws A) => word_c h (by omega) k cw
  have cB := fun (W : World) (h : WIn W ws A) => begins_c h (by omega) k cw
  have cN := fun (W : World) => none_any k W
  rw [(chD_yes h1 (by omega) hs).1, (chD_yes (st := true) h1 (by omega) hs).2] at cW
  rw [(chD_yes h1 (by omega) hs).1, (chD_yes (st := true) h1 (by omega) hs).2] at cB
  rw [show noneD k = { K := k, S := 0, N := List.replicate k 0, A := [false] } from (if_pos (by omega)).trans (by simp), show noneE k = 0 from if_pos (by omega)] at cN
  obtain ⟨c, hc⟩ : ∃ c : D, c = { K := k, S := 0, N := List.replicate k 0, A := [false] } := ⟨_, rfl⟩
  rw [← hc] at cN
  have hcn : c.N.length = k := by rw [hc]; simp
  have hca : c.A.length = 1 := by rw [hc]; rfl
  have hck : (c.K != (k : Int)) = false := by rw [hc]; simp
  have hca1 : (((c.A.length : Nat) : Int) != 1) = false := by rw [hca]; rfl
  have hcn' : c.N.length ≤ 1000 := by omega
  have hca' : c.A.length ≤ 1000 := by omega
  clear hcn hca
  obtain ⟨a, ha⟩ : ∃ a, a = chainD k ws false := ⟨_, rfl⟩
  obtain ⟨b, hb⟩ : ∃ b, b = chainD k ws true := ⟨_, rfl⟩
  have hao : a.Ok := by rw [ha]; exact chainD_ok h1 (by omega) (by omega)
  have hbo : b.Ok := by rw [hb]; exact chainD_ok h1 (by omega) (by omega)
  have hco : c.right = true := by
    rw [hc, D.right_true]
    refine ⟨by show (1 : Int) ≤ k; omega, by show (k : Int) ≤ 512; omega, by simp, by simp, by simp, by simp, by simp, fun s hs => ?_⟩
    rw [(List.mem_replicate.1 hs).2]; simp
  have hal : a.A.length = ws.length + 2 := by rw [ha]; exact chainD_len k ws false
  have hbl : b.A.length = ws.length + 2 := by rw [hb]; exact chainD_len k ws true
  have han : a.N.length ≤ 100000 := by
    have := hao.2.2.2.2.1
    have hk : a.K = k := by rw [ha]; rfl
    have : ((a.A.length : Nat) : Int) * a.K ≤ 42 * 40 := Int.mul_le_mul (by omega) (by omega) (by omega) (by omega)
    omega
  have hbn : b.N.length ≤ 100000 := by
    have := hbo.2.2.2.2.1
    have hk : b.K = k := by rw [hb]; rfl
    have : ((b.A.length : Nat) : Int) * b.K ≤ 42 * 40 := Int.mul_le_mul (by omega) (by omega) (by omega) (by omega)
    omega
  have hak : (a.K != (k : Int)) = false := by rw [ha]; show ((k : Int) != k) = false; simp
  have hbk : (b.K != (k : Int)) = false := by rw [hb]; show ((k : Int) != k) = false; simp
  have ta := fun u => chainD_tells (st := false) h1 (show k ≤ 512 by omega) (show ws.length ≤ 60000 by omega) hs u
  have tb := fun u => chainD_tells (st := true) h1 (show k ≤ 512 by omega) (show ws.length ≤ 60000 by omega) hs u
  rw [← ha] at cW ta
  rw [← hb] at cB tb
  have tc : c.tells other = false := by
    unfold D.tells
    rw [hc]
    rw [noneD_tells_none]
    simp
  have t1 := ta other
  have t2 := tb other
  have t3 := tb (ws ++ other)
  have t4 := ta ws
  rw [symsB_append, hs, beginsB_append] at t3
  rw [hs, beginsB_self] at t4
  simp only [Bool.true_and, Bool.true_or, Bool.and_true, Bool.false_or, decide_true] at t1 t2 t3 t4
  have HRA := Lib.hid (D.right_true.2 hao); have HRB := Lib.hid (D.right_true.2 hbo); have HRC := Lib.hid hco
  have HT1 := Lib.hid t1; have HT2 := Lib.hid t2; have HT3 := Lib.hid t3; have HT4 := Lib.hid t4; have HT5 := Lib.hid tc
  have CW := Lib.hid cW; have CB := Lib.hid cB; have CN := Lib.hid cN
  have HS := Lib.hid hs
  clear cW cB cN ta tb t1 t2 t3 t4 tc hao hbo hco ha hb hc hs
  have hal' : a.A.length ≤ ws.length + 2 := by omega
  have hbl' : b.A.length ≤ ws.length + 2 := by omega
  clear hal hbl
  have Ww := Lib.hid hw
  have Wo := Lib.hid ho
  have HW := Lib.hid (Below.refl w.heap.size w)
  clear hw ho
  go_enter Try.func4, Try.ntmps4
  go_wp2_with fail
  refine (alive_c _).mono ?_
  rintro e w1 ⟨rfl, hb⟩
  replace Ww := Lib.hid (Ww.out.up hb)
  replace Wo := Lib.hid (Wo.out.up hb)
  replace HW := Lib.hid (bel_step HW.out hb)
  clear hb
  go_wp2_with fail
  refine (CW.out _ Ww.out).mono ?_
  rintro e w2 ⟨v, rfl, hx, hb⟩
  replace Ww := Lib.hid (Ww.out.up hb)
  replace Wo := Lib.hid (Wo.out.up hb)
  replace HW := Lib.hid (bel_step HW.out hb)
  clear hb
  obtain ⟨An, an, Aa, aa, rfl, da⟩ := hx.din (by omega)
  clear hx
  have Ha := Lib.hid (HasD.new da an aa)
  replace Ww := Lib.hid (Ww.out.alloc (.cells #[.int .i64 a.K, .int .i64 a.S, .slice An a.N.length an, .slice Aa a.A.length aa] 25))
  replace Wo := Lib.hid (Wo.out.alloc (.cells #[.int .i64 a.K, .int .i64 a.S, .slice An a.N.length an, .slice Aa a.A.length aa] 25))
  replace HW := Lib.hid (bel_alloc HW.out (.cells #[.int .i64 a.K, .int .i64 a.S, .slice An a.N.length an, .slice Aa a.A.length aa] 25))
  clear da
  go_wp2_with fail
  refine (CB.out _ Ww.out).mono ?_
  rintro e w3 ⟨v, rfl, hx, hb⟩
  replace Ha := Lib.hid (Ha.out.up hb)
  replace Ww := Lib.hid (Ww.out.up hb)
  replace Wo := Lib.hid (Wo.out.up hb)
  replace HW := Lib.hid (bel_step HW.out hb)
  clear hb
  obtain ⟨Bn, bn, Ba, ba, rfl, db⟩ := hx.din (by omega)
  clear hx
  obtain ⟨a0, a1, a2, a3⟩ := Ha.out.cells
  have lta := Ha.out.lt
  have Hb := Lib.hid (HasD.new db bn ba)
  replace Ha := Lib.hid (Ha.out.alloc (.cells #[.int .i64 b.K, .int .i64 b.S, .slice Bn b.N.length bn, .slice Ba b.A.length ba] 25))
  replace Ww := Lib.hid (Ww.out.alloc (.cells #[.int .i64 b.K, .int .i64 b.S, .slice Bn b.N.length bn, .slice Ba b.A.length ba] 25))
  replace Wo := Lib.hid (Wo.out.alloc (.cells #[.int .i64 b.K, .int .i64 b.S, .slice Bn b.N.length bn, .slice Ba b.A.length ba] 25))
  replace HW := Lib.hid (bel_alloc HW.out (.cells #[.int .i64 b.K, .int .i64 b.S, .slice Bn b.N.length bn, .slice Ba b.A.length ba] 25))
  clear db
  go_wp2_with fail
  refine (CN.out _).mono ?_
  rintro e w4 ⟨v, rfl, hx, hb⟩
  replace Ha := Lib.hid (Ha.out.up hb)
  replace Hb := Lib.hid (Hb.out.up hb)
  replace Ww := Lib.hid (Ww.out.up hb)
  replace Wo := Lib.hid (Wo.out.up hb)
  replace HW := Lib.hid (bel_step HW.out hb)
  clear a0 a1 a2 a3 lta
  clear hb
  obtain ⟨Cn, cn, Ca, ca, rfl, dc⟩ := hx.din (by omega)
  clear hx
  obtain ⟨a0, a1, a2, a3⟩ := Ha.out.cells
  have lta := Ha.out.lt
  obtain ⟨b0, b1, b2, b3⟩ := Hb.out.cells
  have ltb := Hb.out.lt
  have Hc := Lib.hid (HasD.new dc cn ca)
  replace Ha := Lib.hid (Ha.out.alloc (.cells #[.int .i64 c.K, .int .i64 c.S, .slice Cn c.N.length cn, .slice Ca c.A.length ca] 25))
  replace Hb := Lib.hid (Hb.out.alloc (.cells #[.int .i64 c.K, .int .i64 c.S, .slice Cn c.N.length cn, .slice Ca c.A.length ca] 25))
  replace Ww := Lib.hid (Ww.out.alloc (.cells #[.int .i64 c.K, .int .i64 c.S, .slice Cn c.N.length cn, .slice Ca c.A.length ca] 25))
  replace Wo := Lib.hid (Wo.out.alloc (.cells #[.int .i64 c.K, .int .i64 c.S, .slice Cn c.N.length cn, .slice Ca c.A.length ca] 25))
  replace HW := Lib.hid (bel_alloc HW.out (.cells #[.int .i64 c.K, .int .i64 c.S, .slice Cn c.N.length cn, .slice Ca c.A.length ca] 25))
  clear dc
  go_wp2_with fail
  refine (symbols_c k Ww.out cw).mono ?_
  rintro e w5 ⟨rfl, hb⟩
  replace Ha := Lib.hid (Ha.out.up hb)
  replace Hb := Lib.hid (Hb.out.up hb)
  replace Hc := Lib.hid (Hc.out.up hb)
  replace Ww := Lib.hid (Ww.out.up hb)
  replace Wo := Lib.hid (Wo.out.up hb)
  replace HW := Lib.hid (bel_step HW.out hb)
  clear a0 a1 a2 a3 lta
  clear b0 b1 b2 b3 ltb
  clear hb
  obtain ⟨a0, a1, a2, a3⟩ := Ha.out.cells
  have lta := Ha.out.lt
  obtain ⟨b0, b1, b2, b3⟩ := Hb.out.cells
  have ltb := Hb.out.lt
  obtain ⟨c0, c1, c2, c3⟩ := Hc.out.cells
  have ltc := Hc.out.lt
  rw [HS.out]
  go_wp2_with fail
  refine (refRight_c Ha.out.din an aa).mono ?_
  rintro e w6 ⟨rfl, hb⟩
  replace Ha := Lib.hid (Ha.out.up hb)
  replace Hb := Lib.hid (Hb.out.up hb)
  replace Hc := Lib.hid (Hc.out.up hb)
  replace Ww := Lib.hid (Ww.out.up hb)
  replace Wo := Lib.hid (Wo.out.up hb)
  replace HW := Lib.hid (bel_step HW.out hb)
  clear a0 a1 a2 a3 lta
  clear b0 b1 b2 b3 ltb
  clear c0 c1 c2 c3 ltc
  clear hb
  obtain ⟨a0, a1, a2, a3⟩ := Ha.out.cells
  have lta := Ha.out.lt
  obtain ⟨b0, b1, b2, b3⟩ := Hb.out.cells
  have ltb := Hb.out.lt
  obtain ⟨c0, c1, c2, c3⟩ := Hc.out.cells
  have ltc := Hc.out.lt
  rw [HRA.out]
  go_wp2_with fail
  refine (refRight_c Hb.out.din bn ba).mono ?_
  rintro e w7 ⟨rfl, hb⟩
  replace Ha := Lib.hid (Ha.out.up hb)
  replace Hb := Lib.hid (Hb.out.up hb)
  replace Hc := Lib.hid (Hc.out.up hb)
  replace Ww := Lib.hid (Ww.out.up hb)
  replace Wo := Lib.hid (Wo.out.up hb)
  replace HW := Lib.hid (bel_step HW.out hb)
  clear a0 a1 a2 a3 lta
  clear b0 b1 b2 b3 ltb
  clear c0 c1 c2 c3 ltc
  clear hb
  obtain ⟨a0, a1, a2, a3⟩ := Ha.out.cells
  have lta := Ha.out.lt
  obtain ⟨b0, b1, b2, b3⟩ := Hb.out.cells
  have ltb := Hb.out.lt
  obtain ⟨c0, c1, c2, c3⟩ := Hc.out.cells
  have ltc := Hc.out.lt
  rw [HRB.out]
  go_wp2_with fail
  refine (refRight_c Hc.out.din cn ca).mono ?_
  rintro e w8 ⟨rfl, hb⟩
  replace Ha := Lib.hid (Ha.out.up hb)
  replace Hb := Lib.hid (Hb.out.up hb)
  replace Hc := Lib.hid (Hc.out.up hb)
  replace Ww := Lib.hid (Ww.out.up hb)
  replace Wo := Lib.hid (Wo.out.up hb)
  replace HW := Lib.hid (bel_step HW.out hb)
  clear a0 a1 a2 a3 lta
  clear b0 b1 b2 b3 ltb
  clear c0 c1 c2 c3 ltc
  clear hb
  obtain ⟨a0, a1, a2, a3⟩ := Ha.out.cells
  have lta := Ha.out.lt
  obtain ⟨b0, b1, b2, b3⟩ := Hb.out.cells
  have ltb := Hb.out.lt
  obtain ⟨c0, c1, c2, c3⟩ := Hc.out.cells
  have ltc := Hc.out.lt
  rw [HRC.out]
  go_wp2_with fail
  refine (symbols_c k Wo.out cw2).mono ?_
  rintro e w9 ⟨rfl, hb⟩
  replace Ha := Lib.hid (Ha.out.up hb)
  replace Hb := Lib.hid (Hb.out.up hb)
  replace Hc := Lib.hid (Hc.out.up hb)
  replace Ww := Lib.hid (Ww.out.up hb)
  replace Wo := Lib.hid (Wo.out.up hb)
  replace HW := Lib.hid (bel_step HW.out hb)
  clear a0 a1 a2 a3 lta
  clear b0 b1 b2 b3 ltb
  clear c0 c1 c2 c3 ltc
  clear hb
  obtain ⟨a0, a1, a2, a3⟩ := Ha.out.cells
  have lta := Ha.out.lt
  obtain ⟨b0, b1, b2, b3⟩ := Hb.out.cells
  have ltb := Hb.out.lt
  obtain ⟨c0, c1, c2, c3⟩ := Hc.out.cells
  have ltc := Hc.out.lt
  obtain ⟨i3, hi3, hz3, hs3, hb3⟩ := info_parts Try.info3
  have HI3 := Lib.hid hi3; have HZ3 := Lib.hid hz3; have HS3 := Lib.hid hs3; have HB3 := Lib.hid hb3
  clear hi3 hz3 hs3 hb3
  rcases he1 : symsB k other with _ | _
  · have HE1 := Lib.hid he1; clear he1
    have HV1 : Hid (a.tells other = false) := HT1.out.trans (by rw [HE1.out]; rfl)
    have HV2 : Hid (b.tells other = false) := HT2.out.trans (by rw [HE1.out]; rfl)
    have HV3 : Hid (b.tells (ws ++ other) = false) := HT3.out.trans HE1.out
    have WL := Lib.hid (World.ownsRow_lit (base := 0) (e := 3) (size := 1) w9 #[] 0 (Nat.zero_le _) (Nat.zero_le _) rfl)
    go_wp2_with (at_builtin; refine wpList_append_ints _ rfl (.tmp 167) (.tmp 168) rfl 0 i3 HI3.out HZ3.out HS3.out HB3.out _ 0 [] rfl ?c1f ?cBf A cw ws rfl ?c2f ?c3f (Nat.zero_le _) ?_)
    case c2f => exact (Ww.out.alloc _).r
    case c1f => exact WL.out
    case c3f => omega
    intro v1 x1 hown1 hgr1 hat1
    have hb1 : Below w9.heap.size w9 x1 := (((Touch.refl (fun j => w9.heap.size ≤ j) w9).alloc (.cells #[] 3)).grown hgr1 (fun k hk _ => by simp [Value.ownBlock] at hk; omega)).toBelow (Nat.le_refl _) (fun k hk h => by omega)
    have HB1 := Lib.hid hb1; have HOWN1 := Lib.hid hown1; have HAT1 := Lib.hid hat1
    clear hb1 hown1 hgr1 hat1 WL
    go_wp2_with (at_builtin; go_must (refine wpList_append_ints _ rfl (.tmp 169) (.tmp 170) rfl 0 i3 HI3.out HZ3.out HS3.out HB3.out v1 ws.length (ws.map (Value.int .i64)) rfl HOWN1.out ?dBf A2 cw2 other rfl ?d2f ?d3f (Nat.zero_le _) ?_))
    case d2f => exact (Wo.out.up HB1.out).r
    case d3f => omega
    intro v2 x2 hown2 hgr2 hat2
    have hb : Below w9.heap.size w9 x2 := ((Touch.ofBelow HB1.out).grown hgr2 (fun k hk _ => by
      rcases HAT1.out with h | h
      · rw [hk] at h; simp [Value.ownBlock] at h; omega
      · rw [hk] at h; simp at h; omega)).toBelow (Nat.le_refl _) (fun k hk h => by omega)
    clear hgr2 hat2 HB1 HOWN1 HAT1
    obtain ⟨lg, hlg⟩ : ∃ lg, lg = ws ++ other := ⟨_, rfl⟩
    have e3 : ws.length + other.length = lg.length := by rw [hlg]; simp
    rw [e3] at hown2
    obtain ⟨A3, cw3, rfl⟩ := own_form hown2
    have Wl : Hid (WIn x2 lg A3) := ⟨by omega, by rw [hlg, List.map_append]; exact Rd.of_own hown2 (Nat.le_refl _)⟩
    have HV3' : Hid (b.tells lg = false) := by rw [hlg]; exact HV3.out
    clear e3 hown2 hlg
    replace Ha := Lib.hid (Ha.out.up hb)
    replace Hb := Lib.hid (Hb.out.up hb)
    replace Hc := Lib.hid (Hc.out.up hb)
    replace Ww := Lib.hid (Ww.out.up hb)
    replace Wo := Lib.hid (Wo.out.up hb)
    replace HW := Lib.hid (bel_step HW.out hb)
    clear a0 a1 a2 a3 lta
    clear b0 b1 b2 b3 ltb
    clear c0 c1 c2 c3 ltc
    clear hb
    obtain ⟨a0, a1, a2, a3⟩ := Ha.out.cells
    have lta := Ha.out.lt
    obtain ⟨b0, b1, b2, b3⟩ := Hb.out.cells
    have ltb := Hb.out.lt
    obtain ⟨c0, c1, c2, c3⟩ := Hc.out.cells
    have ltc := Hc.out.lt
    go_wp2_with fail
    refine (refTells_c Ha.out.din Wo.out an aa cw2).mono ?_
    rintro e w10 ⟨rfl, hb⟩
    replace Ha := Lib.hid (Ha.out.up hb)
    replace Hb := Lib.hid (Hb.out.up hb)
    replace Hc := Lib.hid (Hc.out.up hb)
    replace Ww := Lib.hid (Ww.out.up hb)
    replace Wo := Lib.hid (Wo.out.up hb)
    replace Wl := Lib.hid (Wl.out.up hb)
    replace HW := Lib.hid (bel_step HW.out hb)
    clear a0 a1 a2 a3 lta
    clear b0 b1 b2 b3 ltb
    clear c0 c1 c2 c3 ltc
    clear hb
    obtain ⟨a0, a1, a2, a3⟩ := Ha.out.cells
    have lta := Ha.out.lt
    obtain ⟨b0, b1, b2, b3⟩ := Hb.out.cells
    have ltb := Hb.out.lt
    obtain ⟨c0, c1, c2, c3⟩ := Hc.out.cells
    have ltc := Hc.out.lt
    rw [HV1.out]
    go_wp2_with fail
    refine (refTells_c Hb.out.din Wo.out bn ba cw2).mono ?_
    rintro e w11 ⟨rfl, hb⟩
    replace Ha := Lib.hid (Ha.out.up hb)
    replace Hb := Lib.hid (Hb.out.up hb)
    replace Hc := Lib.hid (Hc.out.up hb)
    replace Ww := Lib.hid (Ww.out.up hb)
    replace Wo := Lib.hid (Wo.out.up hb)
    replace Wl := Lib.hid (Wl.out.up hb)
    replace HW := Lib.hid (bel_step HW.out hb)
    clear a0 a1 a2 a3 lta
    clear b0 b1 b2 b3 ltb
    clear c0 c1 c2 c3 ltc
    clear hb
    obtain ⟨a0, a1, a2, a3⟩ := Ha.out.cells
    have lta := Ha.out.lt
    obtain ⟨b0, b1, b2, b3⟩ := Hb.out.cells
    have ltb := Hb.out.lt
    obtain ⟨c0, c1, c2, c3⟩ := Hc.out.cells
    have ltc := Hc.out.lt
    rw [HV2.out]
    go_wp2_with fail
    refine (refTells_c Hb.out.din Wl.out bn ba cw3).mono ?_
    rintro e w12 ⟨rfl, hb⟩
    replace Ha := Lib.hid (Ha.out.up hb)
    replace Hb := Lib.hid (Hb.out.up hb)
    replace Hc := Lib.hid (Hc.out.up hb)
    replace Ww := Lib.hid (Ww.out.up hb)
    replace Wo := Lib.hid (Wo.out.up hb)
    replace Wl := Lib.hid (Wl.out.up hb)
    replace HW := Lib.hid (bel_step HW.out hb)
    clear a0 a1 a2 a3 lta
    clear b0 b1 b2 b3 ltb
    clear c0 c1 c2 c3 ltc
    clear hb
    obtain ⟨a0, a1, a2, a3⟩ := Ha.out.cells
    have lta := Ha.out.lt
    obtain ⟨b0, b1, b2, b3⟩ := Hb.out.cells
    have ltb := Hb.out.lt
    obtain ⟨c0, c1, c2, c3⟩ := Hc.out.cells
    have ltc := Hc.out.lt
    rw [HV3'.out]
    go_wp2_with fail
    refine (symbols_c k Wo.out cw2).mono ?_
    rintro e w13 ⟨rfl, hb⟩
    replace Ha := Lib.hid (Ha.out.up hb)
    replace Hb := Lib.hid (Hb.out.up hb)
    replace Hc := Lib.hid (Hc.out.up hb)
    replace Ww := Lib.hid (Ww.out.up hb)
    replace Wo := Lib.hid (Wo.out.up hb)
    replace Wl := Lib.hid (Wl.out.up hb)
    replace HW := Lib.hid (bel_step HW.out hb)
    clear a0 a1 a2 a3 lta
    clear b0 b1 b2 b3 ltb
    clear c0 c1 c2 c3 ltc
    clear hb
    obtain ⟨a0, a1, a2, a3⟩ := Ha.out.cells
    have lta := Ha.out.lt
    obtain ⟨b0, b1, b2, b3⟩ := Hb.out.cells
    have ltb := Hb.out.lt
    obtain ⟨c0, c1, c2, c3⟩ := Hc.out.cells
    have ltc := Hc.out.lt
    rw [HE1.out]
    go_wp2_with fail
    refine (refTells_c Hc.out.din Wo.out cn ca cw2).mono ?_
    rintro e w14 ⟨rfl, hb⟩
    replace Ha := Lib.hid (Ha.out.up hb)
    replace Hb := Lib.hid (Hb.out.up hb)
    replace Hc := Lib.hid (Hc.out.up hb)
    replace Ww := Lib.hid (Ww.out.up hb)
    replace Wo := Lib.hid (Wo.out.up hb)
    replace Wl := Lib.hid (Wl.out.up hb)
    replace HW := Lib.hid (bel_step HW.out hb)
    clear a0 a1 a2 a3 lta
    clear b0 b1 b2 b3 ltb
    clear c0 c1 c2 c3 ltc
    clear hb
    obtain ⟨a0, a1, a2, a3⟩ := Ha.out.cells
    have lta := Ha.out.lt
    obtain ⟨b0, b1, b2, b3⟩ := Hb.out.cells
    have ltb := Hb.out.lt
    obtain ⟨c0, c1, c2, c3⟩ := Hc.out.cells
    have ltc := Hc.out.lt
    rw [HT5.out]
    go_wp2_with fail
    refine (refTells_c Ha.out.din Ww.out an aa cw).mono ?_
    rintro e w15 ⟨rfl, hb⟩
    replace Ha := Lib.hid (Ha.out.up hb)
    replace Hb := Lib.hid (Hb.out.up hb)
    replace Hc := Lib.hid (Hc.out.up hb)
    replace Ww := Lib.hid (Ww.out.up hb)
    replace Wo := Lib.hid (Wo.out.up hb)
    replace Wl := Lib.hid (Wl.out.up hb)
    replace HW := Lib.hid (bel_step HW.out hb)
    clear a0 a1 a2 a3 lta
    clear b0 b1 b2 b3 ltb
    clear c0 c1 c2 c3 ltc
    clear hb
    obtain ⟨a0, a1, a2, a3⟩ := Ha.out.cells
    have lta := Ha.out.lt
    obtain ⟨b0, b1, b2, b3⟩ := Hb.out.cells
    have ltb := Hb.out.lt
    obtain ⟨c0, c1, c2, c3⟩ := Hc.out.cells
    have ltc := Hc.out.lt
    rw [HT4.out]
    go_wp2_with fail
    go_ret
    exact ⟨rfl, HW.out⟩
  · have HE1 := Lib.hid he1; clear he1
    rcases he2 : beginsB other ws with _ | _
    · have HE2 := Lib.hid he2; clear he2
      have HV1 : Hid (a.tells other = false) := HT1.out.trans (by rw [HE1.out, HE2.out]; rfl)
      have HV2 : Hid (b.tells other = false) := HT2.out.trans (by rw [HE1.out, HE2.out]; rfl)
      have HV3 : Hid (b.tells (ws ++ other) = true) := HT3.out.trans HE1.out
      go_wp2_with fail
      refine (refBegins_c Wo.out Ww.out cw2 cw).mono ?_
      rintro e w10 ⟨rfl, hb⟩
      replace Ha := Lib.hid (Ha.out.up hb)
      replace Hb := Lib.hid (Hb.out.up hb)
      replace Hc := Lib.hid (Hc.out.up hb)
      replace Ww := Lib.hid (Ww.out.up hb)
      replace Wo := Lib.hid (Wo.out.up hb)
      replace HW := Lib.hid (bel_step HW.out hb)
      clear a0 a1 a2 a3 lta
      clear b0 b1 b2 b3 ltb
      clear c0 c1 c2 c3 ltc
      clear hb
      obtain ⟨a0, a1, a2, a3⟩ := Ha.out.cells
      have lta := Ha.out.lt
      obtain ⟨b0, b1, b2, b3⟩ := Hb.out.cells
      have ltb := Hb.out.lt
      obtain ⟨c0, c1, c2, c3⟩ := Hc.out.cells
      have ltc := Hc.out.lt
      rw [HE2.out]
      have WL := Lib.hid (World.ownsRow_lit (base := 0) (e := 3) (size := 1) w10 #[] 0 (Nat.zero_le _) (Nat.zero_le _) rfl)
      go_wp2_with (at_builtin; refine wpList_append_ints _ rfl (.tmp 167) (.tmp 168) rfl 0 i3 HI3.out HZ3.out HS3.out HB3.out _ 0 [] rfl ?c1tf ?cBtf A cw ws rfl ?c2tf ?c3tf (Nat.zero_le _) ?_)
      case c2tf => exact (Ww.out.alloc _).r
      case c1tf => exact WL.out
      case c3tf => omega
      intro v1 x1 hown1 hgr1 hat1
      have hb1 : Below w10.heap.size w10 x1 := (((Touch.refl (fun j => w10.heap.size ≤ j) w10).alloc (.cells #[] 3)).grown hgr1 (fun k hk _ => by simp [Value.ownBlock] at hk; omega)).toBelow (Nat.le_refl _) (fun k hk h => by omega)
      have HB1 := Lib.hid hb1; have HOWN1 := Lib.hid hown1; have HAT1 := Lib.hid hat1
      clear hb1 hown1 hgr1 hat1 WL
      go_wp2_with (at_builtin; go_must (refine wpList_append_ints _ rfl (.tmp 169) (.tmp 170) rfl 0 i3 HI3.out HZ3.out HS3.out HB3.out v1 ws.length (ws.map (Value.int .i64)) rfl HOWN1.out ?dBtf A2 cw2 other rfl ?d2tf ?d3tf (Nat.zero_le _) ?_))
      case d2tf => exact (Wo.out.up HB1.out).r
      case d3tf => omega
      intro v2 x2 hown2 hgr2 hat2
      have hb : Below w10.heap.size w10 x2 := ((Touch.ofBelow HB1.out).grown hgr2 (fun k hk _ => by
        rcases HAT1.out with h | h
        · rw [hk] at h; simp [Value.ownBlock] at h; omega
        · rw [hk] at h; simp at h; omega)).toBelow (Nat.le_refl _) (fun k hk h => by omega)
      clear hgr2 hat2 HB1 HOWN1 HAT1
      obtain ⟨lg, hlg⟩ : ∃ lg, lg = ws ++ other := ⟨_, rfl⟩
      have e3 : ws.length + other.length = lg.length := by rw [hlg]; simp
      rw [e3] at hown2
      obtain ⟨A3, cw3, rfl⟩ := own_form hown2
      have Wl : Hid (WIn x2 lg A3) := ⟨by omega, by rw [hlg, List.map_append]; exact Rd.of_own hown2 (Nat.le_refl _)⟩
      have HV3' : Hid (b.tells lg = true) := by rw [hlg]; exact HV3.out
      clear e3 hown2 hlg
      replace Ha := Lib.hid (Ha.out.up hb)
      replace Hb := Lib.hid (Hb.out.up hb)
      replace Hc := Lib.hid (Hc.out.up hb)
      replace Ww := Lib.hid (Ww.out.up hb)
      replace Wo := Lib.hid (Wo.out.up hb)
      replace HW := Lib.hid (bel_step HW.out hb)
      clear a0 a1 a2 a3 lta
      clear b0 b1 b2 b3 ltb
      clear c0 c1 c2 c3 ltc
      clear hb
      obtain ⟨a0, a1, a2, a3⟩ := Ha.out.cells
      have lta := Ha.out.lt
      obtain ⟨b0, b1, b2, b3⟩ := Hb.out.cells
      have ltb := Hb.out.lt
      obtain ⟨c0, c1, c2, c3⟩ := Hc.out.cells
      have ltc := Hc.out.lt
      go_wp2_with fail
      refine (refTells_c Ha.out.din Wo.out an aa cw2).mono ?_
      rintro e w11 ⟨rfl, hb⟩
      replace Ha := Lib.hid (Ha.out.up hb)
      replace Hb := Lib.hid (Hb.out.up hb)
      replace Hc := Lib.hid (Hc.out.up hb)
      replace Ww := Lib.hid (Ww.out.up hb)
      replace Wo := Lib.hid (Wo.out.up hb)
      replace Wl := Lib.hid (Wl.out.up hb)
      replace HW := Lib.hid (bel_step HW.out hb)
      clear a0 a1 a2 a3 lta
      clear b0 b1 b2 b3 ltb
      clear c0 c1 c2 c3 ltc
      clear hb
      obtain ⟨a0, a1, a2, a3⟩ := Ha.out.cells
      have lta := Ha.out.lt
      obtain ⟨b0, b1, b2, b3⟩ := Hb.out.cells
      have ltb := Hb.out.lt
      obtain ⟨c0, c1, c2, c3⟩ := Hc.out.cells
      have ltc := Hc.out.lt
      rw [HV1.out]
      go_wp2_with fail
      refine (refTells_c Hb.out.din Wo.out bn ba cw2).mono ?_
      rintro e w12 ⟨rfl, hb⟩
      replace Ha := Lib.hid (Ha.out.up hb)
      replace Hb := Lib.hid (Hb.out.up hb)
      replace Hc := Lib.hid (Hc.out.up hb)
      replace Ww := Lib.hid (Ww.out.up hb)
      replace Wo := Lib.hid (Wo.out.up hb)
      replace Wl := Lib.hid (Wl.out.up hb)
      replace HW := Lib.hid (bel_step HW.out hb)
      clear a0 a1 a2 a3 lta
      clear b0 b1 b2 b3 ltb
      clear c0 c1 c2 c3 ltc
      clear hb
      obtain ⟨a0, a1, a2, a3⟩ := Ha.out.cells
      have lta := Ha.out.lt
      obtain ⟨b0, b1, b2, b3⟩ := Hb.out.cells
      have ltb := Hb.out.lt
      obtain ⟨c0, c1, c2, c3⟩ := Hc.out.cells
      have ltc := Hc.out.lt
      rw [HV2.out]
      go_wp2_with fail
      refine (refTells_c Hb.out.din Wl.out bn ba cw3).mono ?_
      rintro e w13 ⟨rfl, hb⟩
      replace Ha := Lib.hid (Ha.out.up hb)
      replace Hb := Lib.hid (Hb.out.up hb)
      replace Hc := Lib.hid (Hc.out.up hb)
      replace Ww := Lib.hid (Ww.out.up hb)
      replace Wo := Lib.hid (Wo.out.up hb)
      replace Wl := Lib.hid (Wl.out.up hb)
      replace HW := Lib.hid (bel_step HW.out hb)
      clear a0 a1 a2 a3 lta
      clear b0 b1 b2 b3 ltb
      clear c0 c1 c2 c3 ltc
      clear hb
      obtain ⟨a0, a1, a2, a3⟩ := Ha.out.cells
      have lta := Ha.out.lt
      obtain ⟨b0, b1, b2, b3⟩ := Hb.out.cells
      have ltb := Hb.out.lt
      obtain ⟨c0, c1, c2, c3⟩ := Hc.out.cells
      have ltc := Hc.out.lt
      rw [HV3'.out]
      go_wp2_with fail
      refine (symbols_c k Wo.out cw2).mono ?_
      rintro e w14 ⟨rfl, hb⟩
      replace Ha := Lib.hid (Ha.out.up hb)
      replace Hb := Lib.hid (Hb.out.up hb)
      replace Hc := Lib.hid (Hc.out.up hb)
      replace Ww := Lib.hid (Ww.out.up hb)
      replace Wo := Lib.hid (Wo.out.up hb)
      replace Wl := Lib.hid (Wl.out.up hb)
      replace HW := Lib.hid (bel_step HW.out hb)
      clear a0 a1 a2 a3 lta
      clear b0 b1 b2 b3 ltb
      clear c0 c1 c2 c3 ltc
      clear hb
      obtain ⟨a0, a1, a2, a3⟩ := Ha.out.cells
      have lta := Ha.out.lt
      obtain ⟨b0, b1, b2, b3⟩ := Hb.out.cells
      have ltb := Hb.out.lt
      obtain ⟨c0, c1, c2, c3⟩ := Hc.out.cells
      have ltc := Hc.out.lt
      rw [HE1.out]
      go_wp2_with fail
      refine (refTells_c Hc.out.din Wo.out cn ca cw2).mono ?_
      rintro e w15 ⟨rfl, hb⟩
      replace Ha := Lib.hid (Ha.out.up hb)
      replace Hb := Lib.hid (Hb.out.up hb)
      replace Hc := Lib.hid (Hc.out.up hb)
      replace Ww := Lib.hid (Ww.out.up hb)
      replace Wo := Lib.hid (Wo.out.up hb)
      replace Wl := Lib.hid (Wl.out.up hb)
      replace HW := Lib.hid (bel_step HW.out hb)
      clear a0 a1 a2 a3 lta
      clear b0 b1 b2 b3 ltb
      clear c0 c1 c2 c3 ltc
      clear hb
      obtain ⟨a0, a1, a2, a3⟩ := Ha.out.cells
      have lta := Ha.out.lt
      obtain ⟨b0, b1, b2, b3⟩ := Hb.out.cells
      have ltb := Hb.out.lt
      obtain ⟨c0, c1, c2, c3⟩ := Hc.out.cells
      have ltc := Hc.out.lt
      rw [HT5.out]
      go_wp2_with fail
      refine (refTells_c Ha.out.din Ww.out an aa cw).mono ?_
      rintro e w16 ⟨rfl, hb⟩
      replace Ha := Lib.hid (Ha.out.up hb)
      replace Hb := Lib.hid (Hb.out.up hb)
      replace Hc := Lib.hid (Hc.out.up hb)
      replace Ww := Lib.hid (Ww.out.up hb)
      replace Wo := Lib.hid (Wo.out.up hb)
      replace Wl := Lib.hid (Wl.out.up hb)
      replace HW := Lib.hid (bel_step HW.out hb)
      clear a0 a1 a2 a3 lta
      clear b0 b1 b2 b3 ltb
      clear c0 c1 c2 c3 ltc
      clear hb
      obtain ⟨a0, a1, a2, a3⟩ := Ha.out.cells
      have lta := Ha.out.lt
      obtain ⟨b0, b1, b2, b3⟩ := Hb.out.cells
      have ltb := Hb.out.lt
      obtain ⟨c0, c1, c2, c3⟩ := Hc.out.cells
      have ltc := Hc.out.lt
      rw [HT4.out]
      go_wp2_with fail
      go_ret
      exact ⟨rfl, HW.out⟩
    · have HE2 := Lib.hid he2; clear he2
      by_cases e3 : other.length = ws.length
      · have hq : (((other.length : Nat) : Int) == (ws.length : Nat)) = true := by rw [e3]; simp
        have HQ : Hid (decide (other.length = ws.length) = true) := decide_eq_true e3
        clear e3
        have HV1 : Hid (a.tells other = true) := HT1.out.trans (by rw [HE1.out, HE2.out, HQ.out]; rfl)
        have HV2 : Hid (b.tells other = true) := HT2.out.trans (by rw [HE1.out, HE2.out]; rfl)
        have HV3 : Hid (b.tells (ws ++ other) = true) := HT3.out.trans HE1.out
        go_wp2_with fail
        refine (refBegins_c Wo.out Ww.out cw2 cw).mono ?_
        rintro e w10 ⟨rfl, hb⟩
        replace Ha := Lib.hid (Ha.out.up hb)
        replace Hb := Lib.hid (Hb.out.up hb)
        replace Hc := Lib.hid (Hc.out.up hb)
        replace Ww := Lib.hid (Ww.out.up hb)
        replace Wo := Lib.hid (Wo.out.up hb)
        replace HW := Lib.hid (bel_step HW.out hb)
        clear a0 a1 a2 a3 lta
        clear b0 b1 b2 b3 ltb
        clear c0 c1 c2 c3 ltc
        clear hb
        obtain ⟨a0, a1, a2, a3⟩ := Ha.out.cells
        have lta := Ha.out.lt
        obtain ⟨b0, b1, b2, b3⟩ := Hb.out.cells
        have ltb := Hb.out.lt
        obtain ⟨c0, c1, c2, c3⟩ := Hc.out.cells
        have ltc := Hc.out.lt
        rw [HE2.out]
        have WL := Lib.hid (World.ownsRow_lit (base := 0) (e := 3) (size := 1) w10 #[] 0 (Nat.zero_le _) (Nat.zero_le _) rfl)
        go_wp2_with (at_builtin; refine wpList_append_ints _ rfl (.tmp 167) (.tmp 168) rfl 0 i3 HI3.out HZ3.out HS3.out HB3.out _ 0 [] rfl ?c1ttt ?cBttt A cw ws rfl ?c2ttt ?c3ttt (Nat.zero_le _) ?_)
        case c2ttt => exact (Ww.out.alloc _).r
        case c1ttt => exact WL.out
        case c3ttt => omega
        intro v1 x1 hown1 hgr1 hat1
        have hb1 : Below w10.heap.size w10 x1 := (((Touch.refl (fun j => w10.heap.size ≤ j) w10).alloc (.cells #[] 3)).grown hgr1 (fun k hk _ => by simp [Value.ownBlock] at hk; omega)).toBelow (Nat.le_refl _) (fun k hk h => by omega)
        have HB1 := Lib.hid hb1; have HOWN1 := Lib.hid hown1; have HAT1 := Lib.hid hat1
        clear hb1 hown1 hgr1 hat1 WL
        go_wp2_with (at_builtin; go_must (refine wpList_append_ints _ rfl (.tmp 169) (.tmp 170) rfl 0 i3 HI3.out HZ3.out HS3.out HB3.out v1 ws.length (ws.map (Value.int .i64)) rfl HOWN1.out ?dBttt A2 cw2 other rfl ?d2ttt ?d3ttt (Nat.zero_le _) ?_))
        case d2ttt => exact (Wo.out.up HB1.out).r
        case d3ttt => omega
        intro v2 x2 hown2 hgr2 hat2
        have hb : Below w10.heap.size w10 x2 := ((Touch.ofBelow HB1.out).grown hgr2 (fun k hk _ => by
          rcases HAT1.out with h | h
          · rw [hk] at h; simp [Value.ownBlock] at h; omega
          · rw [hk] at h; simp at h; omega)).toBelow (Nat.le_refl _) (fun k hk h => by omega)
        clear hgr2 hat2 HB1 HOWN1 HAT1
        obtain ⟨lg, hlg⟩ : ∃ lg, lg = ws ++ other := ⟨_, rfl⟩
        have e3 : ws.length + other.length = lg.length := by rw [hlg]; simp
        rw [e3] at hown2
        obtain ⟨A3, cw3, rfl⟩ := own_form hown2
        have Wl : Hid (WIn x2 lg A3) := ⟨by omega, by rw [hlg, List.map_append]; exact Rd.of_own hown2 (Nat.le_refl _)⟩
        have HV3' : Hid (b.tells lg = true) := by rw [hlg]; exact HV3.out
        clear e3 hown2 hlg
        replace Ha := Lib.hid (Ha.out.up hb)
        replace Hb := Lib.hid (Hb.out.up hb)
        replace Hc := Lib.hid (Hc.out.up hb)
        replace Ww := Lib.hid (Ww.out.up hb)
        replace Wo := Lib.hid (Wo.out.up hb)
        replace HW := Lib.hid (bel_step HW.out hb)
        clear a0 a1 a2 a3 lta
        clear b0 b1 b2 b3 ltb
        clear c0 c1 c2 c3 ltc
        clear hb
        obtain ⟨a0, a1, a2, a3⟩ := Ha.out.cells
        have lta := Ha.out.lt
        obtain ⟨b0, b1, b2, b3⟩ := Hb.out.cells
        have ltb := Hb.out.lt
        obtain ⟨c0, c1, c2, c3⟩ := Hc.out.cells
        have ltc := Hc.out.lt
        go_wp2_with fail
        refine (refTells_c Ha.out.din Wo.out an aa cw2).mono ?_
        rintro e w11 ⟨rfl, hb⟩
        replace Ha := Lib.hid (Ha.out.up hb)
        replace Hb := Lib.hid (Hb.out.up hb)
        replace Hc := Lib.hid (Hc.out.up hb)
        replace Ww := Lib.hid (Ww.out.up hb)
        replace Wo := Lib.hid (Wo.out.up hb)
        replace Wl := Lib.hid (Wl.out.up hb)
        replace HW := Lib.hid (bel_step HW.out hb)
        clear a0 a1 a2 a3 lta
        clear b0 b1 b2 b3 ltb
        clear c0 c1 c2 c3 ltc
        clear hb
        obtain ⟨a0, a1, a2, a3⟩ := Ha.out.cells
        have lta := Ha.out.lt
        obtain ⟨b0, b1, b2, b3⟩ := Hb.out.cells
        have ltb := Hb.out.lt
        obtain ⟨c0, c1, c2, c3⟩ := Hc.out.cells
        have ltc := Hc.out.lt
        rw [HV1.out]
        go_wp2_with fail
        refine (refTells_c Hb.out.din Wo.out bn ba cw2).mono ?_
        rintro e w12 ⟨rfl, hb⟩
        replace Ha := Lib.hid (Ha.out.up hb)
        replace Hb := Lib.hid (Hb.out.up hb)
        replace Hc := Lib.hid (Hc.out.up hb)
        replace Ww := Lib.hid (Ww.out.up hb)
        replace Wo := Lib.hid (Wo.out.up hb)
        replace Wl := Lib.hid (Wl.out.up hb)
        replace HW := Lib.hid (bel_step HW.out hb)
        clear a0 a1 a2 a3 lta
        clear b0 b1 b2 b3 ltb
        clear c0 c1 c2 c3 ltc
        clear hb
        obtain ⟨a0, a1, a2, a3⟩ := Ha.out.cells
        have lta := Ha.out.lt
        obtain ⟨b0, b1, b2, b3⟩ := Hb.out.cells
        have ltb := Hb.out.lt
        obtain ⟨c0, c1, c2, c3⟩ := Hc.out.cells
        have ltc := Hc.out.lt
        rw [HV2.out]
        go_wp2_with fail
        refine (refTells_c Hb.out.din Wl.out bn ba cw3).mono ?_
        rintro e w13 ⟨rfl, hb⟩
        replace Ha := Lib.hid (Ha.out.up hb)
        replace Hb := Lib.hid (Hb.out.up hb)
        replace Hc := Lib.hid (Hc.out.up hb)
        replace Ww := Lib.hid (Ww.out.up hb)
        replace Wo := Lib.hid (Wo.out.up hb)
        replace Wl := Lib.hid (Wl.out.up hb)
        replace HW := Lib.hid (bel_step HW.out hb)
        clear a0 a1 a2 a3 lta
        clear b0 b1 b2 b3 ltb
        clear c0 c1 c2 c3 ltc
        clear hb
        obtain ⟨a0, a1, a2, a3⟩ := Ha.out.cells
        have lta := Ha.out.lt
        obtain ⟨b0, b1, b2, b3⟩ := Hb.out.cells
        have ltb := Hb.out.lt
        obtain ⟨c0, c1, c2, c3⟩ := Hc.out.cells
        have ltc := Hc.out.lt
        rw [HV3'.out]
        go_wp2_with fail
        refine (symbols_c k Wo.out cw2).mono ?_
        rintro e w14 ⟨rfl, hb⟩
        replace Ha := Lib.hid (Ha.out.up hb)
        replace Hb := Lib.hid (Hb.out.up hb)
        replace Hc := Lib.hid (Hc.out.up hb)
        replace Ww := Lib.hid (Ww.out.up hb)
        replace Wo := Lib.hid (Wo.out.up hb)
        replace Wl := Lib.hid (Wl.out.up hb)
        replace HW := Lib.hid (bel_step HW.out hb)
        clear a0 a1 a2 a3 lta
        clear b0 b1 b2 b3 ltb
        clear c0 c1 c2 c3 ltc
        clear hb
        obtain ⟨a0, a1, a2, a3⟩ := Ha.out.cells
        have lta := Ha.out.lt
        obtain ⟨b0, b1, b2, b3⟩ := Hb.out.cells
        have ltb := Hb.out.lt
        obtain ⟨c0, c1, c2, c3⟩ := Hc.out.cells
        have ltc := Hc.out.lt
        rw [HE1.out]
        go_wp2_with fail
        refine (refTells_c Hc.out.din Wo.out cn ca cw2).mono ?_
        rintro e w15 ⟨rfl, hb⟩
        replace Ha := Lib.hid (Ha.out.up hb)
        replace Hb := Lib.hid (Hb.out.up hb)
        replace Hc := Lib.hid (Hc.out.up hb)
        replace Ww := Lib.hid (Ww.out.up hb)
        replace Wo := Lib.hid (Wo.out.up hb)
        replace Wl := Lib.hid (Wl.out.up hb)
        replace HW := Lib.hid (bel_step HW.out hb)
        clear a0 a1 a2 a3 lta
        clear b0 b1 b2 b3 ltb
        clear c0 c1 c2 c3 ltc
        clear hb
        obtain ⟨a0, a1, a2, a3⟩ := Ha.out.cells
        have lta := Ha.out.lt
        obtain ⟨b0, b1, b2, b3⟩ := Hb.out.cells
        have ltb := Hb.out.lt
        obtain ⟨c0, c1, c2, c3⟩ := Hc.out.cells
        have ltc := Hc.out.lt
        rw [HT5.out]
        go_wp2_with fail
        refine (refTells_c Ha.out.din Ww.out an aa cw).mono ?_
        rintro e w16 ⟨rfl, hb⟩
        replace Ha := Lib.hid (Ha.out.up hb)
        replace Hb := Lib.hid (Hb.out.up hb)
        replace Hc := Lib.hid (Hc.out.up hb)
        replace Ww := Lib.hid (Ww.out.up hb)
        replace Wo := Lib.hid (Wo.out.up hb)
        replace Wl := Lib.hid (Wl.out.up hb)
        replace HW := Lib.hid (bel_step HW.out hb)
        clear a0 a1 a2 a3 lta
        clear b0 b1 b2 b3 ltb
        clear c0 c1 c2 c3 ltc
        clear hb
        obtain ⟨a0, a1, a2, a3⟩ := Ha.out.cells
        have lta := Ha.out.lt
        obtain ⟨b0, b1, b2, b3⟩ := Hb.out.cells
        have ltb := Hb.out.lt
        obtain ⟨c0, c1, c2, c3⟩ := Hc.out.cells
        have ltc := Hc.out.lt
        rw [HT4.out]
        go_wp2_with fail
        go_ret
        exact ⟨rfl, HW.out⟩
      · have hq : (((other.length : Nat) : Int) == (ws.length : Nat)) = false := by rw [beq_eq_false_iff_ne]; omega
        have HQ : Hid (decide (other.length = ws.length) = false) := decide_eq_false e3
        clear e3
        have HV1 : Hid (a.tells other = false) := HT1.out.trans (by rw [HE1.out, HE2.out, HQ.out]; rfl)
        have HV2 : Hid (b.tells other = true) := HT2.out.trans (by rw [HE1.out, HE2.out]; rfl)
        have HV3 : Hid (b.tells (ws ++ other) = true) := HT3.out.trans HE1.out
        go_wp2_with fail
        refine (refBegins_c Wo.out Ww.out cw2 cw).mono ?_
        rintro e w10 ⟨rfl, hb⟩
        replace Ha := Lib.hid (Ha.out.up hb)
        replace Hb := Lib.hid (Hb.out.up hb)
        replace Hc := Lib.hid (Hc.out.up hb)
        replace Ww := Lib.hid (Ww.out.up hb)
        replace Wo := Lib.hid (Wo.out.up hb)
        replace HW := Lib.hid (bel_step HW.out hb)
        clear a0 a1 a2 a3 lta
        clear b0 b1 b2 b3 ltb
        clear c0 c1 c2 c3 ltc
        clear hb
        obtain ⟨a0, a1, a2, a3⟩ := Ha.out.cells
        have lta := Ha.out.lt
        obtain ⟨b0, b1, b2, b3⟩ := Hb.out.cells
        have ltb := Hb.out.lt
        obtain ⟨c0, c1, c2, c3⟩ := Hc.out.cells
        have ltc := Hc.out.lt
        rw [HE2.out]
        have WL := Lib.hid (World.ownsRow_lit (base := 0) (e := 3) (size := 1) w10 #[] 0 (Nat.zero_le _) (Nat.zero_le _) rfl)
        go_wp2_with (at_builtin; refine wpList_append_ints _ rfl (.tmp 167) (.tmp 168) rfl 0 i3 HI3.out HZ3.out HS3.out HB3.out _ 0 [] rfl ?c1ttf ?cBttf A cw ws rfl ?c2ttf ?c3ttf (Nat.zero_le _) ?_)
        case c2ttf => exact (Ww.out.alloc _).r
        case c1ttf => exact WL.out
        case c3ttf => omega
        intro v1 x1 hown1 hgr1 hat1
        have hb1 : Below w10.heap.size w10 x1 := (((Touch.refl (fun j => w10.heap.size ≤ j) w10).alloc (.cells #[] 3)).grown hgr1 (fun k hk _ => by simp [Value.ownBlock] at hk; omega)).toBelow (Nat.le_refl _) (fun k hk h => by omega)
        have HB1 := Lib.hid hb1; have HOWN1 := Lib.hid hown1; have HAT1 := Lib.hid hat1
        clear hb1 hown1 hgr1 hat1 WL
        go_wp2_with (at_builtin; go_must (refine wpList_append_ints _ rfl (.tmp 169) (.tmp 170) rfl 0 i3 HI3.out HZ3.out HS3.out HB3.out v1 ws.length (ws.map (Value.int .i64)) rfl HOWN1.out ?dBttf A2 cw2 other rfl ?d2ttf ?d3ttf (Nat.zero_le _) ?_))
        case d2ttf => exact (Wo.out.up HB1.out).r
        case d3ttf => omega
        intro v2 x2 hown2 hgr2 hat2
        have hb : Below w10.heap.size w10 x2 := ((Touch.ofBelow HB1.out).grown hgr2 (fun k hk _ => by
          rcases HAT1.out with h | h
          · rw [hk] at h; simp [Value.ownBlock] at h; omega
          · rw [hk] at h; simp at h; omega)).toBelow (Nat.le_refl _) (fun k hk h => by omega)
        clear hgr2 hat2 HB1 HOWN1 HAT1
        obtain ⟨lg, hlg⟩ : ∃ lg, lg = ws ++ other := ⟨_, rfl⟩
        have e3 : ws.length + other.length = lg.length := by rw [hlg]; simp
        rw [e3] at hown2
        obtain ⟨A3, cw3, rfl⟩ := own_form hown2
        have Wl : Hid (WIn x2 lg A3) := ⟨by omega, by rw [hlg, List.map_append]; exact Rd.of_own hown2 (Nat.le_refl _)⟩
        have HV3' : Hid (b.tells lg = true) := by rw [hlg]; exact HV3.out
        clear e3 hown2 hlg
        replace Ha := Lib.hid (Ha.out.up hb)
        replace Hb := Lib.hid (Hb.out.up hb)
        replace Hc := Lib.hid (Hc.out.up hb)
        replace Ww := Lib.hid (Ww.out.up hb)
        replace Wo := Lib.hid (Wo.out.up hb)
        replace HW := Lib.hid (bel_step HW.out hb)
        clear a0 a1 a2 a3 lta
        clear b0 b1 b2 b3 ltb
        clear c0 c1 c2 c3 ltc
        clear hb
        obtain ⟨a0, a1, a2, a3⟩ := Ha.out.cells
        have lta := Ha.out.lt
        obtain ⟨b0, b1, b2, b3⟩ := Hb.out.cells
        have ltb := Hb.out.lt
        obtain ⟨c0, c1, c2, c3⟩ := Hc.out.cells
        have ltc := Hc.out.lt
        go_wp2_with fail
        refine (refTells_c Ha.out.din Wo.out an aa cw2).mono ?_
        rintro e w11 ⟨rfl, hb⟩
        replace Ha := Lib.hid (Ha.out.up hb)
        replace Hb := Lib.hid (Hb.out.up hb)
        replace Hc := Lib.hid (Hc.out.up hb)
        replace Ww := Lib.hid (Ww.out.up hb)
        replace Wo := Lib.hid (Wo.out.up hb)
        replace Wl := Lib.hid (Wl.out.up hb)
        replace HW := Lib.hid (bel_step HW.out hb)
        clear a0 a1 a2 a3 lta
        clear b0 b1 b2 b3 ltb
        clear c0 c1 c2 c3 ltc
        clear hb
        obtain ⟨a0, a1, a2, a3⟩ := Ha.out.cells
        have lta := Ha.out.lt
        obtain ⟨b0, b1, b2, b3⟩ := Hb.out.cells
        have ltb := Hb.out.lt
        obtain ⟨c0, c1, c2, c3⟩ := Hc.out.cells
        have ltc := Hc.out.lt
        rw [HV1.out]
        go_wp2_with fail
        refine (refTells_c Hb.out.din Wo.out bn ba cw2).mono ?_
        rintro e w12 ⟨rfl, hb⟩
        replace Ha := Lib.hid (Ha.out.up hb)
        replace Hb := Lib.hid (Hb.out.up hb)
        replace Hc := Lib.hid (Hc.out.up hb)
        replace Ww := Lib.hid (Ww.out.up hb)
        replace Wo := Lib.hid (Wo.out.up hb)
        replace Wl := Lib.hid (Wl.out.up hb)
        replace HW := Lib.hid (bel_step HW.out hb)
        clear a0 a1 a2 a3 lta
        clear b0 b1 b2 b3 ltb
        clear c0 c1 c2 c3 ltc
        clear hb
        obtain ⟨a0, a1, a2, a3⟩ := Ha.out.cells
        have lta := Ha.out.lt
        obtain ⟨b0, b1, b2, b3⟩ := Hb.out.cells
        have ltb := Hb.out.lt
        obtain ⟨c0, c1, c2, c3⟩ := Hc.out.cells
        have ltc := Hc.out.lt
        rw [HV2.out]
        go_wp2_with fail
        refine (refTells_c Hb.out.din Wl.out bn ba cw3).mono ?_
        rintro e w13 ⟨rfl, hb⟩
        replace Ha := Lib.hid (Ha.out.up hb)
        replace Hb := Lib.hid (Hb.out.up hb)
        replace Hc := Lib.hid (Hc.out.up hb)
        replace Ww := Lib.hid (Ww.out.up hb)
        replace Wo := Lib.hid (Wo.out.up hb)
        replace Wl := Lib.hid (Wl.out.up hb)
        replace HW := Lib.hid (bel_step HW.out hb)
        clear a0 a1 a2 a3 lta
        clear b0 b1 b2 b3 ltb
        clear c0 c1 c2 c3 ltc
        clear hb
        obtain ⟨a0, a1, a2, a3⟩ := Ha.out.cells
        have lta := Ha.out.lt
        obtain ⟨b0, b1, b2, b3⟩ := Hb.out.cells
        have ltb := Hb.out.lt
        obtain ⟨c0, c1, c2, c3⟩ := Hc.out.cells
        have ltc := Hc.out.lt
        rw [HV3'.out]
        go_wp2_with fail
        refine (symbols_c k Wo.out cw2).mono ?_
        rintro e w14 ⟨rfl, hb⟩
        replace Ha := Lib.hid (Ha.out.up hb)
        replace Hb := Lib.hid (Hb.out.up hb)
        replace Hc := Lib.hid (Hc.out.up hb)
        replace Ww := Lib.hid (Ww.out.up hb)
        replace Wo := Lib.hid (Wo.out.up hb)
        replace Wl := Lib.hid (Wl.out.up hb)
        replace HW := Lib.hid (bel_step HW.out hb)
        clear a0 a1 a2 a3 lta
        clear b0 b1 b2 b3 ltb
        clear c0 c1 c2 c3 ltc
        clear hb
        obtain ⟨a0, a1, a2, a3⟩ := Ha.out.cells
        have lta := Ha.out.lt
        obtain ⟨b0, b1, b2, b3⟩ := Hb.out.cells
        have ltb := Hb.out.lt
        obtain ⟨c0, c1, c2, c3⟩ := Hc.out.cells
        have ltc := Hc.out.lt
        rw [HE1.out]
        go_wp2_with fail
        refine (refTells_c Hc.out.din Wo.out cn ca cw2).mono ?_
        rintro e w15 ⟨rfl, hb⟩
        replace Ha := Lib.hid (Ha.out.up hb)
        replace Hb := Lib.hid (Hb.out.up hb)
        replace Hc := Lib.hid (Hc.out.up hb)
        replace Ww := Lib.hid (Ww.out.up hb)
        replace Wo := Lib.hid (Wo.out.up hb)
        replace Wl := Lib.hid (Wl.out.up hb)
        replace HW := Lib.hid (bel_step HW.out hb)
        clear a0 a1 a2 a3 lta
        clear b0 b1 b2 b3 ltb
        clear c0 c1 c2 c3 ltc
        clear hb
        obtain ⟨a0, a1, a2, a3⟩ := Ha.out.cells
        have lta := Ha.out.lt
        obtain ⟨b0, b1, b2, b3⟩ := Hb.out.cells
        have ltb := Hb.out.lt
        obtain ⟨c0, c1, c2, c3⟩ := Hc.out.cells
        have ltc := Hc.out.lt
        rw [HT5.out]
        go_wp2_with fail
        refine (refTells_c Ha.out.din Ww.out an aa cw).mono ?_
        rintro e w16 ⟨rfl, hb⟩
        replace Ha := Lib.hid (Ha.out.up hb)
        replace Hb := Lib.hid (Hb.out.up hb)
        replace Hc := Lib.hid (Hc.out.up hb)
        replace Ww := Lib.hid (Ww.out.up hb)
        replace Wo := Lib.hid (Wo.out.up hb)
        replace Wl := Lib.hid (Wl.out.up hb)
        replace HW := Lib.hid (bel_step HW.out hb)
        clear a0 a1 a2 a3 lta
        clear b0 b1 b2 b3 ltb
        clear c0 c1 c2 c3 ltc
        clear hb
        obtain ⟨a0, a1, a2, a3⟩ := Ha.out.cells
        have lta := Ha.out.lt
        obtain ⟨b0, b1, b2, b3⟩ := Hb.out.cells
        have ltb := Hb.out.lt
        obtain ⟨c0, c1, c2, c3⟩ := Hc.out.cells
        have ltc := Hc.out.lt
        rw [HT4.out]
        go_wp2_with fail
        go_ret
        exact ⟨rfl, HW.out⟩
theorem dfaWords_law (k : Int) (A A2 : Option Addr) (cw cw2 : Nat) (ws other : List Int) (w : World) (hw : WIn w ws A) (ho : WIn w other A2) :
    Calls Try.prog 4 #[.int .i64 k, .slice A ws.length cw, .slice A2 other.length cw2] w (Ret (.bool true) w) := by
  by_cases h0 : 40 < ws.length
  · exact dfaWords_long k A A2 cw cw2 ws other w hw ho h0
  by_cases h : 60 < other.length
  · exact dfaWords_long2 k A A2 cw cw2 ws other w hw ho h0 h
  by_cases h1 : k < 1
  · exact dfaWords_small k A A2 cw cw2 ws other w hw ho h0 h h1
  by_cases h2 : 512 < k
  · exact dfaWords_big k A A2 cw cw2 ws other w hw ho h0 h h2
  by_cases h3 : 40 < k
  · exact dfaWords_many k A A2 cw cw2 ws other w hw ho h0 h h3 (by omega)
  obtain ⟨k, rfl⟩ := Int.eq_ofNat_of_zero_le (show 0 ≤ k by omega)
  rcases hs : symsB k ws with _ | _
  · exact dfaWords_nosym k A A2 cw cw2 ws other w hw ho h0 h (by omega) (by omega) hs
  · exact dfaWords_yes k A A2 cw cw2 ws other w hw ho h0 h (by omega) (by omega) hs
end Go.Proofs.Ytmpcoclgcldclaa
