/- The walk of the law ShortTells. -/
import Derived.Test.YtmpcoclgcldclaaHK
namespace Go.Proofs.Ytmpcoclgcldclaa
open Go.RowKit
attribute [local go_sem ↓] Go.wp_at_zero Go.wp_at_succ

section
variable (d : D) (cs : List Int) (most : Int) (An Aa Ac : Option Addr) (cn ca cc : Nat) (w : World)
set_option maxHeartbeats 2000000 in
set_option maxRecDepth 100000 in
theorem shortTells_great (hd : DIn w d An Aa) (hg : great17 d cs = true) : Calls Try.prog 9 #[dfaV d.K d.S An d.N.length cn Aa d.A.length ca, .slice Ac cs.length cc, .int .i64 most] w (Ret (.bool true) w) := by
  have c47 := fun (W : World) => great17_any d cs An Aa Ac cn ca cc W
  rw [hg] at c47
  have C47 := Lib.hid c47
  have Hbox := Lib.hid (HasD.new hd cn ca)
  have HW := Lib.hid (bel_new w (boxD d An cn Aa ca))
  clear hd hg c47
  go_enter Try.func9, Try.ntmps9
  go_wp2_with fail
  refine (shortAlive_any _).mono ?_
  rintro e w1 ⟨rfl, hb1⟩
  replace Hbox := Lib.hid (Hbox.out.up hb1); replace HW := Lib.hid (bel_step HW.out hb1)
  obtain ⟨d0, d1, d2, d3⟩ := Hbox.out.cells
  have ltd := Hbox.out.lt
  clear hb1
  go_wp2_with fail
  refine (C47.out _).mono ?_
  rintro e w2 ⟨rfl, hb1⟩
  go_wp2_with fail
  go_ret
  exact ⟨rfl, bel_step HW.out hb1⟩
set_option maxHeartbeats 4000000 in
set_option maxRecDepth 100000 in
theorem shortTells_no (hd : DIn w d An Aa) (hc : WIn w cs Ac) (hg : great17 d cs = false) (hr : right17 d cs = false)
    (hno : ∀ W, Below w.heap.size w W → Calls Try.prog 48 #[dfaV d.K d.S An d.N.length cn Aa d.A.length ca, .slice Ac cs.length cc, .int .i64 most] W (LeastNo W)) :
    Calls Try.prog 9 #[dfaV d.K d.S An d.N.length cn Aa d.A.length ca, .slice Ac cs.length cc, .int .i64 most] w (Ret (.bool true) w) := by
  have c47 := fun (W : World) => great17_any d cs An Aa Ac cn ca cc W
  rw [hg] at c47
  have c49 := fun (W : World) (hb : Below w.heap.size w W) => right17_any d cs An Aa Ac cn ca cc W (hd.up hb) (hc.up hb)
  rw [hr] at c49
  have C47 := Lib.hid c47; have C49 := Lib.hid c49; have C48 := Lib.hid hno
  have Hbox := Lib.hid (HasD.new hd cn ca)
  have HW := Lib.hid (bel_new w (boxD d An cn Aa ca))
  clear hd hc hg hr c47 c49 hno
  go_enter Try.func9, Try.ntmps9
  go_wp2_with fail
  refine (shortAlive_any _).mono ?_
  rintro e w1 ⟨rfl, hb1⟩
  replace Hbox := Lib.hid (Hbox.out.up hb1); replace HW := Lib.hid (bel_step HW.out hb1)
  obtain ⟨d0, d1, d2, d3⟩ := Hbox.out.cells
  have ltd := Hbox.out.lt
  clear hb1
  go_wp2_with fail
  refine (C47.out _).mono ?_
  rintro e w2 ⟨rfl, hb1⟩
  replace Hbox := Lib.hid (Hbox.out.up hb1); replace HW := Lib.hid (bel_step HW.out hb1)
  clear hb1 d0 d1 d2 d3 ltd
  obtain ⟨d0, d1, d2, d3⟩ := Hbox.out.cells
  have ltd := Hbox.out.lt
  go_wp2_with fail
  refine (C48.out _ HW.out).mono ?_
  rintro e w3 ⟨rfl, hb1⟩
  replace Hbox := Lib.hid (Hbox.out.up hb1); replace HW := Lib.hid (bel_step HW.out hb1)
  clear hb1 d0 d1 d2 d3 ltd
  obtain ⟨d0, d1, d2, d3⟩ := Hbox.out.cells
  have ltd := Hbox.out.lt
  go_wp2_with fail
  refine (C49.out _ HW.out).mono ?_
  rintro e w4 ⟨rfl, hb1⟩
  go_wp2_with fail
  go_ret
  exact ⟨rfl, bel_step HW.out hb1⟩
set_option maxHeartbeats 8000000 in
set_option maxRecDepth 100000 in
theorem shortTells_yes (hd : DIn w d An Aa) (hc : WIn w cs Ac) (hg : great17 d cs = false) (hr : right17 d cs = true) : Calls Try.prog 9 #[dfaV d.K d.S An d.N.length cn Aa d.A.length ca, .slice Ac cs.length cc, .int .i64 most] w (Ret (.bool true) w) := by
  have hf := right17_fit.1 hr
  obtain ⟨hgA, hgN, hgC, hgK⟩ := great17_no hg
  have c47 := fun (W : World) => great17_any d cs An Aa Ac cn ca cc W
  rw [hg] at c47
  have c49 := fun (W : World) (hb : Below w.heap.size w W) => right17_any d cs An Aa Ac cn ca cc W (hd.up hb) (hc.up hb)
  rw [hr] at c49
  have C47 := Lib.hid c47; have C49 := Lib.hid c49
  have Hbox := Lib.hid (HasD.new hd cn ca)
  have HW := Lib.hid (bel_new w (boxD d An cn Aa ca))
  have HD := Lib.hid hd; have HC := Lib.hid hc; have HF := Lib.hid hf
  clear hd hc hg hr c47 c49 hf
  go_enter Try.func9, Try.ntmps9
  go_wp2_with fail
  refine (shortAlive_any _).mono ?_
  rintro e w1 ⟨rfl, hb1⟩
  replace Hbox := Lib.hid (Hbox.out.up hb1); replace HW := Lib.hid (bel_step HW.out hb1)
  obtain ⟨d0, d1, d2, d3⟩ := Hbox.out.cells
  have ltd := Hbox.out.lt
  clear hb1
  go_wp2_with fail
  refine (C47.out _).mono ?_
  rintro e w2 ⟨rfl, hb1⟩
  replace Hbox := Lib.hid (Hbox.out.up hb1); replace HW := Lib.hid (bel_step HW.out hb1)
  clear hb1 d0 d1 d2 d3 ltd
  obtain ⟨d0, d1, d2, d3⟩ := Hbox.out.cells
  have ltd := Hbox.out.lt
  go_wp2_with fail
  refine (least_yes d cs most An Aa Ac cn ca cc w2 (HD.out.up HW.out) (HC.out.up HW.out) HF.out (by omega)).mono ?_
  rintro e w3 ⟨o, A3, c3, rfl, hP, _, hlen, hr3, hb1⟩
  replace Hbox := Lib.hid (Hbox.out.up hb1); replace HW := Lib.hid (bel_step HW.out hb1)
  clear hb1 d0 d1 d2 d3 ltd
  obtain ⟨d0, d1, d2, d3⟩ := Hbox.out.cells
  have ltd := Hbox.out.lt
  have hol : (o.getD []).length ≤ 1000 := by
    cases o with
    | none => simp
    | some W => have := hlen W rfl; simp; omega
  have HWI : Hid (WIn w3 (o.getD []) A3) := ⟨by omega, hr3⟩
  have HP := Lib.hid hP
  clear hP hr3 hlen
  go_wp2_with fail
  refine (C49.out _ HW.out).mono ?_
  rintro e w4 ⟨rfl, hb1⟩
  replace HWI := Lib.hid (HWI.out.up hb1)
  replace Hbox := Lib.hid (Hbox.out.up hb1); replace HW := Lib.hid (bel_step HW.out hb1)
  clear hb1 d0 d1 d2 d3 ltd
  obtain ⟨d0, d1, d2, d3⟩ := Hbox.out.cells
  have ltd := Hbox.out.lt
  by_cases hbig : 60 < most
  · cases o with
    | none =>
      simp only [Option.isSome_none, Option.getD_none]
      go_wp2_with fail
      go_ret
      exact ⟨rfl, HW.out⟩
    | some W =>
      have htl : d.tells W = true := (told_tells HF.out.ok).1 HP.out.1.told
      have c30 := refTells_c (HD.out.up HW.out) HWI.out cn ca c3
      simp only [Option.getD_some] at c30 hol HWI ⊢
      rw [htl] at c30
      have C30 := Lib.hid c30
      clear c30 htl
      simp only [Option.isSome_some]
      go_wp2_with fail
      refine C30.out.mono ?_
      rintro e w5 ⟨rfl, hb1⟩
      go_wp2_with fail
      go_ret
      exact ⟨rfl, bel_step HW.out hb1⟩
  · go_wp2_with fail
    refine (refLeast_any d cs most An Aa Ac cn ca cc w4 (HD.out.up HW.out) (HC.out.up HW.out) HF.out hgA (by omega)).mono ?_
    rintro e w5 ⟨o', A5, c5, rfl, hP', hr5, hb1⟩
    obtain rfl := hP'.uniq HP.out
    replace HWI := Lib.hid (HWI.out.up hb1)
    replace HW := Lib.hid (bel_step HW.out hb1)
    have HW5 : Hid (WIn w5 (o'.getD []) A5) := ⟨by omega, hr5⟩
    clear hb1 d0 d1 d2 d3 ltd hr5 hP'
    have c51 := same_any A3 A5 c3 c5 (o'.getD []) (o'.getD []) (w5.alloc (.cells #[.bool o'.isSome, .slice A5 (o'.getD []).length c5] 46)) (HWI.out.alloc _) (HW5.out.alloc _)
    rw [decide_eq_true rfl] at c51
    have C51 := Lib.hid c51
    clear c51
    have hbb : (o'.isSome == o'.isSome) = true := by simp
    go_wp2_with fail
    refine C51.out.mono ?_
    rintro e w6 ⟨rfl, hb1⟩
    go_wp2_with fail
    go_ret
    exact ⟨rfl, bel_step (bel_alloc HW.out _) hb1⟩
theorem shortTells_law (hd : DIn w d An Aa) (hc : WIn w cs Ac) : Calls Try.prog 9 #[dfaV d.K d.S An d.N.length cn Aa d.A.length ca, .slice Ac cs.length cc, .int .i64 most] w (Ret (.bool true) w) := by
  rcases hg : great17 d cs with _ | _
  · rcases hr : right17 d cs with _ | _
    · refine shortTells_no d cs most An Aa Ac cn ca cc w hd hc hg hr fun W hb => ?_
      rcases h1 : d.right with _ | _
      · exact least_no1 d cs most An Aa Ac cn ca cc W (hd.up hb) h1
      · rcases h2 : ((cs.length : Int) != d.K) with _ | _
        · rcases h3 : fineB cs with _ | _
          · exact least_no3 d cs most An Aa Ac cn ca cc W (hd.up hb) (hc.up hb) h1 h2 h3
          · exfalso
            have : right17 d cs = true := by
              unfold right17
              rw [h1, h3]
              simpa using h2
            rw [hr] at this
            cases this
        · exact least_no2 d cs most An Aa Ac cn ca cc W (hd.up hb) h1 h2
    · exact shortTells_yes d cs most An Aa Ac cn ca cc w hd hc hg hr
  · exact shortTells_great d cs most An Aa Ac cn ca cc w hd hg
end
end Go.Proofs.Ytmpcoclgcldclaa
