/- The walk of the law TightCounts. -/
import Derived.Test.YtmpcoclgcldclaaUN
namespace Go.Proofs.Ytmpcoclgcldclaa
open Go.RowKit
attribute [local go_sem ↓] Go.wp_at_zero Go.wp_at_succ

theorem count_c {d : D} {An Aa : Option Addr} {w : World} (n : Int) (hd : DIn w d An Aa) (hok : d.Ok) (hK : d.K ≤ 4) (hn : n ≤ 5) (cn ca : Nat) :
    Calls Try.prog 60 #[dfaV d.K d.S An d.N.length cn Aa d.A.length ca, .int .i64 n] w (Ret (.tuple #[.int .u64 ((refCntN d n : Nat) : Int), .int .i64 0]) w) := by
  unfold refCntN
  by_cases h0 : n < 0
  · rw [if_pos h0]
    exact count_neg d n An Aa cn ca w hd (D.right_true.2 hok) h0
  · rw [if_neg h0]
    have h := count_yes d n An Aa cn ca w hd hok (by omega) (by omega)
    rwa [sat_small (Nat.le_trans (cnt_small hK (show n.toNat < 20 by omega) d.S) (by decide))] at h

set_option maxHeartbeats 4000000 in
set_option maxRecDepth 100000 in
theorem tightCounts_great (d : D) (n : Int) (An Aa : Option Addr) (cn ca : Nat) (w : World) (hd : DIn w d An Aa) (hg : d.great = true) :
    Calls Try.prog 14 #[dfaV d.K d.S An d.N.length cn Aa d.A.length ca, .int .i64 n] w (Ret (.bool true) w) := by
  have HG := Lib.hid hg; clear hg
  have Hd := Lib.hid (HasD.new hd cn ca)
  have HW := Lib.hid (bel_new w (.cells #[.int .i64 d.K, .int .i64 d.S, .slice An d.N.length cn, .slice Aa d.A.length ca] 25))
  clear hd
  go_enter Try.func14, Try.ntmps14
  go_wp2_with fail
  refine (tightAlive_any _).mono ?_
  rintro e w1 ⟨rfl, hb⟩
  replace Hd := Lib.hid (Hd.out.up hb)
  replace HW := Lib.hid (bel_step HW.out hb)
  clear hb
  obtain ⟨d0, d1, d2, d3⟩ := Hd.out.cells
  have ltd := Hd.out.lt
  go_wp2_with fail
  refine (great16_c d An Aa cn ca _).mono ?_
  rintro e w2 ⟨rfl, hb⟩
  replace Hd := Lib.hid (Hd.out.up hb)
  replace HW := Lib.hid (bel_step HW.out hb)
  clear d0 d1 d2 d3 ltd
  clear hb
  obtain ⟨d0, d1, d2, d3⟩ := Hd.out.cells
  have ltd := Hd.out.lt
  rw [HG.out]
  go_wp2_with fail
  go_ret
  exact ⟨rfl, HW.out⟩
set_option maxHeartbeats 4000000 in
set_option maxRecDepth 100000 in
theorem tightCounts_n (d : D) (n : Int) (An Aa : Option Addr) (cn ca : Nat) (w : World) (hd : DIn w d An Aa) (hg : d.great = false) (hn : 5 < n) :
    Calls Try.prog 14 #[dfaV d.K d.S An d.N.length cn Aa d.A.length ca, .int .i64 n] w (Ret (.bool true) w) := by
  have HG := Lib.hid hg; clear hg
  have Hd := Lib.hid (HasD.new hd cn ca)
  have HW := Lib.hid (bel_new w (.cells #[.int .i64 d.K, .int .i64 d.S, .slice An d.N.length cn, .slice Aa d.A.length ca] 25))
  clear hd
  go_enter Try.func14, Try.ntmps14
  go_wp2_with fail
  refine (tightAlive_any _).mono ?_
  rintro e w1 ⟨rfl, hb⟩
  replace Hd := Lib.hid (Hd.out.up hb)
  replace HW := Lib.hid (bel_step HW.out hb)
  clear hb
  obtain ⟨d0, d1, d2, d3⟩ := Hd.out.cells
  have ltd := Hd.out.lt
  go_wp2_with fail
  refine (great16_c d An Aa cn ca _).mono ?_
  rintro e w2 ⟨rfl, hb⟩
  replace Hd := Lib.hid (Hd.out.up hb)
  replace HW := Lib.hid (bel_step HW.out hb)
  clear d0 d1 d2 d3 ltd
  clear hb
  obtain ⟨d0, d1, d2, d3⟩ := Hd.out.cells
  have ltd := Hd.out.lt
  rw [HG.out]
  go_wp2_with fail
  go_ret
  exact ⟨rfl, HW.out⟩
set_option maxHeartbeats 4000000 in
set_option maxRecDepth 100000 in
theorem tightCounts_k (d : D) (n : Int) (An Aa : Option Addr) (cn ca : Nat) (w : World) (hd : DIn w d An Aa) (hg : d.great = false) (hn : n ≤ 5) (hk : 4 < d.K) :
    Calls Try.prog 14 #[dfaV d.K d.S An d.N.length cn Aa d.A.length ca, .int .i64 n] w (Ret (.bool true) w) := by
  have HG := Lib.hid hg; clear hg
  have Hd := Lib.hid (HasD.new hd cn ca)
  have HW := Lib.hid (bel_new w (.cells #[.int .i64 d.K, .int .i64 d.S, .slice An d.N.length cn, .slice Aa d.A.length ca] 25))
  clear hd
  go_enter Try.func14, Try.ntmps14
  go_wp2_with fail
  refine (tightAlive_any _).mono ?_
  rintro e w1 ⟨rfl, hb⟩
  replace Hd := Lib.hid (Hd.out.up hb)
  replace HW := Lib.hid (bel_step HW.out hb)
  clear hb
  obtain ⟨d0, d1, d2, d3⟩ := Hd.out.cells
  have ltd := Hd.out.lt
  go_wp2_with fail
  refine (great16_c d An Aa cn ca _).mono ?_
  rintro e w2 ⟨rfl, hb⟩
  replace Hd := Lib.hid (Hd.out.up hb)
  replace HW := Lib.hid (bel_step HW.out hb)
  clear d0 d1 d2 d3 ltd
  clear hb
  obtain ⟨d0, d1, d2, d3⟩ := Hd.out.cells
  have ltd := Hd.out.lt
  rw [HG.out]
  go_wp2_with fail
  go_ret
  exact ⟨rfl, HW.out⟩
set_option maxHeartbeats 4000000 in
set_option maxRecDepth 100000 in
theorem tightCounts_no (d : D) (n : Int) (An Aa : Option Addr) (cn ca : Nat) (w : World) (hd : DIn w d An Aa) (hg : d.great = false) (hn : n ≤ 5) (hk : d.K ≤ 4) (hr : d.right = false) :
    Calls Try.prog 14 #[dfaV d.K d.S An d.N.length cn Aa d.A.length ca, .int .i64 n] w (Ret (.bool true) w) := by
  have HG := Lib.hid hg; clear hg
  have HR := Lib.hid hr; clear hr
  have Hd := Lib.hid (HasD.new hd cn ca)
  have HW := Lib.hid (bel_new w (.cells #[.int .i64 d.K, .int .i64 d.S, .slice An d.N.length cn, .slice Aa d.A.length ca] 25))
  clear hd
  go_enter Try.func14, Try.ntmps14
  go_wp2_with fail
  refine (tightAlive_any _).mono ?_
  rintro e w1 ⟨rfl, hb⟩
  replace Hd := Lib.hid (Hd.out.up hb)
  replace HW := Lib.hid (bel_step HW.out hb)
  clear hb
  obtain ⟨d0, d1, d2, d3⟩ := Hd.out.cells
  have ltd := Hd.out.lt
  go_wp2_with fail
  refine (great16_c d An Aa cn ca _).mono ?_
  rintro e w2 ⟨rfl, hb⟩
  replace Hd := Lib.hid (Hd.out.up hb)
  replace HW := Lib.hid (bel_step HW.out hb)
  clear d0 d1 d2 d3 ltd
  clear hb
  obtain ⟨d0, d1, d2, d3⟩ := Hd.out.cells
  have ltd := Hd.out.lt
  rw [HG.out]
  go_wp2_with fail
  refine (count_no d n An Aa cn ca _ Hd.out.din HR.out).mono ?_
  rintro e w3 ⟨rfl, hb⟩
  replace Hd := Lib.hid (Hd.out.up hb)
  replace HW := Lib.hid (bel_step HW.out hb)
  clear d0 d1 d2 d3 ltd
  clear hb
  obtain ⟨d0, d1, d2, d3⟩ := Hd.out.cells
  have ltd := Hd.out.lt
  go_wp2_with fail
  refine (refRight_c Hd.out.din cn ca).mono ?_
  rintro e w4 ⟨rfl, hb⟩
  replace Hd := Lib.hid (Hd.out.up hb)
  replace HW := Lib.hid (bel_step HW.out hb)
  clear d0 d1 d2 d3 ltd
  clear hb
  obtain ⟨d0, d1, d2, d3⟩ := Hd.out.cells
  have ltd := Hd.out.lt
  rw [HR.out]
  go_wp2_with fail
  go_ret
  exact ⟨rfl, HW.out⟩
set_option maxHeartbeats 4000000 in
set_option maxRecDepth 100000 in
theorem tightCounts_yes (d : D) (n : Int) (An Aa : Option Addr) (cn ca : Nat) (w : World) (hd : DIn w d An Aa) (hg : d.great = false) (hn : n ≤ 5) (hk : d.K ≤ 4) (hr : d.right = true) :
    Calls Try.prog 14 #[dfaV d.K d.S An d.N.length cn Aa d.A.length ca, .int .i64 n] w (Ret (.bool true) w) := by
  have HG := Lib.hid hg; clear hg
  have hok := D.right_true.1 hr
  have C60 := Lib.hid (fun (W : World) (h : DIn W d An Aa) => count_c n h hok hk hn cn ca)
  have C61 := Lib.hid (fun (W : World) (h : DIn W d An Aa) => refCount_any d n An Aa cn ca W h hok hk hn)
  generalize refCntN d n = m at C60 C61
  clear hok
  have HR := Lib.hid hr; clear hr
  have Hd := Lib.hid (HasD.new hd cn ca)
  have HW := Lib.hid (bel_new w (.cells #[.int .i64 d.K, .int .i64 d.S, .slice An d.N.length cn, .slice Aa d.A.length ca] 25))
  clear hd
  go_enter Try.func14, Try.ntmps14
  go_wp2_with fail
  refine (tightAlive_any _).mono ?_
  rintro e w1 ⟨rfl, hb⟩
  replace Hd := Lib.hid (Hd.out.up hb)
  replace HW := Lib.hid (bel_step HW.out hb)
  clear hb
  obtain ⟨d0, d1, d2, d3⟩ := Hd.out.cells
  have ltd := Hd.out.lt
  go_wp2_with fail
  refine (great16_c d An Aa cn ca _).mono ?_
  rintro e w2 ⟨rfl, hb⟩
  replace Hd := Lib.hid (Hd.out.up hb)
  replace HW := Lib.hid (bel_step HW.out hb)
  clear d0 d1 d2 d3 ltd
  clear hb
  obtain ⟨d0, d1, d2, d3⟩ := Hd.out.cells
  have ltd := Hd.out.lt
  rw [HG.out]
  go_wp2_with fail
  refine (C60.out _ Hd.out.din).mono ?_
  rintro e w3 ⟨rfl, hb⟩
  replace Hd := Lib.hid (Hd.out.up hb)
  replace HW := Lib.hid (bel_step HW.out hb)
  clear d0 d1 d2 d3 ltd
  clear hb
  obtain ⟨d0, d1, d2, d3⟩ := Hd.out.cells
  have ltd := Hd.out.lt
  go_wp2_with fail
  refine (refRight_c Hd.out.din cn ca).mono ?_
  rintro e w4 ⟨rfl, hb⟩
  replace Hd := Lib.hid (Hd.out.up hb)
  replace HW := Lib.hid (bel_step HW.out hb)
  clear d0 d1 d2 d3 ltd
  clear hb
  obtain ⟨d0, d1, d2, d3⟩ := Hd.out.cells
  have ltd := Hd.out.lt
  rw [HR.out]
  go_wp2_with fail
  refine (C61.out _ Hd.out.din).mono ?_
  rintro e w5 ⟨rfl, hb⟩
  replace Hd := Lib.hid (Hd.out.up hb)
  replace HW := Lib.hid (bel_step HW.out hb)
  clear d0 d1 d2 d3 ltd
  clear hb
  obtain ⟨d0, d1, d2, d3⟩ := Hd.out.cells
  have ltd := Hd.out.lt
  go_wp2_with fail
  go_ret
  exact ⟨ret_bool (by simp), HW.out⟩
theorem tightCounts_law (d : D) (n : Int) (An Aa : Option Addr) (cn ca : Nat) (w : World) (hd : DIn w d An Aa) :
    Calls Try.prog 14 #[dfaV d.K d.S An d.N.length cn Aa d.A.length ca, .int .i64 n] w (Ret (.bool true) w) := by
  rcases hg : d.great with _ | _
  · by_cases hn : 5 < n
    · exact tightCounts_n d n An Aa cn ca w hd hg hn
    · by_cases hk : 4 < d.K
      · exact tightCounts_k d n An Aa cn ca w hd hg (by omega) hk
      · rcases hr : d.right with _ | _
        · exact tightCounts_no d n An Aa cn ca w hd hg (by omega) (by omega) hr
        · exact tightCounts_yes d n An Aa cn ca w hd hg (by omega) (by omega) hr
  · exact tightCounts_great d n An Aa cn ca w hd hg
end Go.Proofs.Ytmpcoclgcldclaa
