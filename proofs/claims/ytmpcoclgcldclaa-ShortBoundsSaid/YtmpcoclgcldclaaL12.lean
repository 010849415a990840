/- The walk of the law ShortLeast. -/
import Derived.Test.YtmpcoclgcldclaaHJ
namespace Go.Proofs.Ytmpcoclgcldclaa
open Go.RowKit
attribute [local go_sem ↓] Go.wp_at_zero Go.wp_at_succ

theorem costB_fit {d : D} {cs ws : List Int} (hf : Fit d cs) (hs : symsB d.K ws = true) : costB cs ws = costW cs ws := by
  unfold costB
  rw [hf.fine, hf.len, hs]
  rfl
abbrev boxV (d : D) (An : Option Addr) (cn : Nat) (Aa : Option Addr) (ca : Nat) : Obj := .cells #[.int .i64 d.K, .int .i64 d.S, .slice An d.N.length cn, .slice Aa d.A.length ca] 25
section
variable (d : D) (cs ws : List Int) (An Aa Ac A : Option Addr) (cn ca cc c : Nat) (w : World)
set_option maxHeartbeats 2000000 in
set_option maxRecDepth 100000 in
theorem shortLeast_great (hd : DIn w d An Aa) (hg : great17 d cs = true) : Calls Try.prog 12 #[dfaV d.K d.S An d.N.length cn Aa d.A.length ca, .slice Ac cs.length cc, .slice A ws.length c] w (Ret (.bool true) w) := by
  have c47 := fun (W : World) => great17_any d cs An Aa Ac cn ca cc W
  rw [hg] at c47
  have C47 := Lib.hid c47
  have Hbox := Lib.hid (HasD.new hd cn ca)
  have HW := Lib.hid (bel_new w (boxV d An cn Aa ca))
  clear hd hg c47
  go_enter Try.func12, Try.ntmps12
  go_wp2_with fail
  refine (shortAlive_any _).mono ?_
  rintro e w1 ⟨rfl, hb1⟩
  replace Hbox := Lib.hid (Hbox.out.up hb1); replace HW := Lib.hid (bel_step HW.out hb1)
  obtain ⟨d0, d1, d2, d3⟩ := Hbox.out.cells
  have ltd := Hbox.out.lt
  clear hb1
  go_wp2_with fail
  refine (C47.out _).mono ?_
  rintro e w2 ⟨rfl, hb1⟩
  go_wp2_with fail
  go_ret
  exact ⟨rfl, bel_step HW.out hb1⟩
set_option maxHeartbeats 2000000 in
set_option maxRecDepth 100000 in
theorem shortLeast_long (hd : DIn w d An Aa) (hg : great17 d cs = false) (hl : 60 < ws.length) : Calls Try.prog 12 #[dfaV d.K d.S An d.N.length cn Aa d.A.length ca, .slice Ac cs.length cc, .slice A ws.length c] w (Ret (.bool true) w) := by
  have c47 := fun (W : World) => great17_any d cs An Aa Ac cn ca cc W
  rw [hg] at c47
  have C47 := Lib.hid c47
  have Hbox := Lib.hid (HasD.new hd cn ca)
  have HW := Lib.hid (bel_new w (boxV d An cn Aa ca))
  clear hd hg c47
  go_enter Try.func12, Try.ntmps12
  go_wp2_with fail
  refine (shortAlive_any _).mono ?_
  rintro e w1 ⟨rfl, hb1⟩
  replace Hbox := Lib.hid (Hbox.out.up hb1); replace HW := Lib.hid (bel_step HW.out hb1)
  obtain ⟨d0, d1, d2, d3⟩ := Hbox.out.cells
  have ltd := Hbox.out.lt
  clear hb1
  go_wp2_with fail
  refine (C47.out _).mono ?_
  rintro e w2 ⟨rfl, hb1⟩
  go_wp2_with fail
  go_ret
  exact ⟨rfl, bel_step HW.out hb1⟩
set_option maxHeartbeats 2000000 in
set_option maxRecDepth 100000 in
theorem shortLeast_no (hd : DIn w d An Aa) (hc : WIn w cs Ac) (hg : great17 d cs = false) (hl : ws.length ≤ 60) (hr : right17 d cs = false) : Calls Try.prog 12 #[dfaV d.K d.S An d.N.length cn Aa d.A.length ca, .slice Ac cs.length cc, .slice A ws.length c] w (Ret (.bool true) w) := by
  have c47 := fun (W : World) => great17_any d cs An Aa Ac cn ca cc W
  rw [hg] at c47
  have c49 := fun (W : World) (hb : Below w.heap.size w W) => right17_any d cs An Aa Ac cn ca cc W (hd.up hb) (hc.up hb)
  rw [hr] at c49
  have C47 := Lib.hid c47; have C49 := Lib.hid c49
  have Hbox := Lib.hid (HasD.new hd cn ca)
  have HW := Lib.hid (bel_new w (boxV d An cn Aa ca))
  clear hd hc hg hr c47 c49
  go_enter Try.func12, Try.ntmps12
  go_wp2_with fail
  refine (shortAlive_any _).mono ?_
  rintro e w1 ⟨rfl, hb1⟩
  replace Hbox := Lib.hid (Hbox.out.up hb1); replace HW := Lib.hid (bel_step HW.out hb1)
  obtain ⟨d0, d1, d2, d3⟩ := Hbox.out.cells
  have ltd := Hbox.out.lt
  clear hb1
  go_wp2_with fail
  refine (C47.out _).mono ?_
  rintro e w2 ⟨rfl, hb1⟩
  replace Hbox := Lib.hid (Hbox.out.up hb1); replace HW := Lib.hid (bel_step HW.out hb1)
  clear hb1 d0 d1 d2 d3 ltd
  obtain ⟨d0, d1, d2, d3⟩ := Hbox.out.cells
  have ltd := Hbox.out.lt
  go_wp2_with fail
  refine (C49.out _ HW.out).mono ?_
  rintro e w3 ⟨rfl, hb1⟩
  go_wp2_with fail
  go_ret
  exact ⟨rfl, bel_step HW.out hb1⟩
set_option maxHeartbeats 8000000 in
set_option maxRecDepth 100000 in
theorem shortLeast_yes (hd : DIn w d An Aa) (hc : WIn w cs Ac) (hw : WIn w ws A) (hg : great17 d cs = false) (hl : ws.length ≤ 60) (hr : right17 d cs = true) : Calls Try.prog 12 #[dfaV d.K d.S An d.N.length cn Aa d.A.length ca, .slice Ac cs.length cc, .slice A ws.length c] w (Ret (.bool true) w) := by
  have hf := right17_fit.1 hr
  obtain ⟨hgA, hgN, hgC, hgK⟩ := great17_no hg
  have c47 := fun (W : World) => great17_any d cs An Aa Ac cn ca cc W
  rw [hg] at c47
  have c49 := fun (W : World) (hb : Below w.heap.size w W) => right17_any d cs An Aa Ac cn ca cc W (hd.up hb) (hc.up hb)
  rw [hr] at c49
  have c52 := fun (W : World) (hb : Below w.heap.size w W) => refCost_any A Ac c cc cs ws W (hc.up hb) (hw.up hb) (by omega)
  have c29 := fun (W : World) (hb : Below w.heap.size w W) => tells_c (hd.up hb) (hw.up hb) cn ca c
  have C47 := Lib.hid c47; have C49 := Lib.hid c49
  have Hbox := Lib.hid (HasD.new hd cn ca)
  have HW := Lib.hid (bel_new w (boxV d An cn Aa ca))
  have HD := Lib.hid hd; have HC := Lib.hid hc; have HWI := Lib.hid hw; have HF := Lib.hid hf
  obtain ⟨x, hx⟩ : ∃ x, costB cs ws = x := ⟨_, rfl⟩
  have HX := Lib.hid hx
  rw [hx] at c52
  have C52 := Lib.hid c52
  clear hd hc hw hg hr c47 c49 c52 hf hx
  by_cases hx0 : x < 0
  · clear c29
    go_enter Try.func12, Try.ntmps12
    go_wp2_with fail
    refine (shortAlive_any _).mono ?_
    rintro e w1 ⟨rfl, hb1⟩
    replace Hbox := Lib.hid (Hbox.out.up hb1); replace HW := Lib.hid (bel_step HW.out hb1)
    obtain ⟨d0, d1, d2, d3⟩ := Hbox.out.cells
    have ltd := Hbox.out.lt
    clear hb1
    go_wp2_with fail
    refine (C47.out _).mono ?_
    rintro e w2 ⟨rfl, hb1⟩
    replace Hbox := Lib.hid (Hbox.out.up hb1); replace HW := Lib.hid (bel_step HW.out hb1)
    clear hb1 d0 d1 d2 d3 ltd
    obtain ⟨d0, d1, d2, d3⟩ := Hbox.out.cells
    have ltd := Hbox.out.lt
    go_wp2_with fail
    refine (C49.out _ HW.out).mono ?_
    rintro e w3 ⟨rfl, hb1⟩
    replace Hbox := Lib.hid (Hbox.out.up hb1); replace HW := Lib.hid (bel_step HW.out hb1)
    clear hb1 d0 d1 d2 d3 ltd
    go_wp2_with fail
    refine (C52.out _ HW.out).mono ?_
    rintro e w4 ⟨rfl, hb1⟩
    go_wp2_with fail
    go_ret
    exact ⟨rfl, bel_step HW.out hb1⟩
  rcases ht : d.tells ws with _ | _
  · rw [ht] at c29
    have C29 := Lib.hid c29
    clear c29 ht
    go_enter Try.func12, Try.ntmps12
    go_wp2_with fail
    refine (shortAlive_any _).mono ?_
    rintro e w1 ⟨rfl, hb1⟩
    replace Hbox := Lib.hid (Hbox.out.up hb1); replace HW := Lib.hid (bel_step HW.out hb1)
    obtain ⟨d0, d1, d2, d3⟩ := Hbox.out.cells
    have ltd := Hbox.out.lt
    clear hb1
    go_wp2_with fail
    refine (C47.out _).mono ?_
    rintro e w2 ⟨rfl, hb1⟩
    replace Hbox := Lib.hid (Hbox.out.up hb1); replace HW := Lib.hid (bel_step HW.out hb1)
    clear hb1 d0 d1 d2 d3 ltd
    obtain ⟨d0, d1, d2, d3⟩ := Hbox.out.cells
    have ltd := Hbox.out.lt
    go_wp2_with fail
    refine (C49.out _ HW.out).mono ?_
    rintro e w3 ⟨rfl, hb1⟩
    replace Hbox := Lib.hid (Hbox.out.up hb1); replace HW := Lib.hid (bel_step HW.out hb1)
    clear hb1 d0 d1 d2 d3 ltd
    go_wp2_with fail
    refine (C52.out _ HW.out).mono ?_
    rintro e w4 ⟨rfl, hb1⟩
    replace Hbox := Lib.hid (Hbox.out.up hb1); replace HW := Lib.hid (bel_step HW.out hb1)
    clear hb1
    obtain ⟨d0, d1, d2, d3⟩ := Hbox.out.cells
    have ltd := Hbox.out.lt
    go_wp2_with fail
    refine (C29.out _ HW.out).mono ?_
    rintro e w5 ⟨rfl, hb1⟩
    go_wp2_with fail
    go_ret
    exact ⟨rfl, bel_step HW.out hb1⟩
  · rw [ht] at c29
    have hto := (told_tells HF.out.ok).2 ht
    have hxw : costW cs ws = x := by rw [← costB_fit HF.out hto.1]; exact HX.out
    have C29 := Lib.hid c29; have HTO := Lib.hid hto; have HXW := Lib.hid hxw
    clear c29 ht hto hxw
    go_enter Try.func12, Try.ntmps12
    go_wp2_with fail
    refine (shortAlive_any _).mono ?_
    rintro e w1 ⟨rfl, hb1⟩
    replace Hbox := Lib.hid (Hbox.out.up hb1); replace HW := Lib.hid (bel_step HW.out hb1)
    obtain ⟨d0, d1, d2, d3⟩ := Hbox.out.cells
    have ltd := Hbox.out.lt
    clear hb1
    go_wp2_with fail
    refine (C47.out _).mono ?_
    rintro e w2 ⟨rfl, hb1⟩
    replace Hbox := Lib.hid (Hbox.out.up hb1); replace HW := Lib.hid (bel_step HW.out hb1)
    clear hb1 d0 d1 d2 d3 ltd
    obtain ⟨d0, d1, d2, d3⟩ := Hbox.out.cells
    have ltd := Hbox.out.lt
    go_wp2_with fail
    refine (C49.out _ HW.out).mono ?_
    rintro e w3 ⟨rfl, hb1⟩
    replace Hbox := Lib.hid (Hbox.out.up hb1); replace HW := Lib.hid (bel_step HW.out hb1)
    clear hb1 d0 d1 d2 d3 ltd
    go_wp2_with fail
    refine (C52.out _ HW.out).mono ?_
    rintro e w4 ⟨rfl, hb1⟩
    replace Hbox := Lib.hid (Hbox.out.up hb1); replace HW := Lib.hid (bel_step HW.out hb1)
    clear hb1
    obtain ⟨d0, d1, d2, d3⟩ := Hbox.out.cells
    have ltd := Hbox.out.lt
    go_wp2_with fail
    refine (C29.out _ HW.out).mono ?_
    rintro e w5 ⟨rfl, hb1⟩
    replace Hbox := Lib.hid (Hbox.out.up hb1); replace HW := Lib.hid (bel_step HW.out hb1)
    clear hb1 d0 d1 d2 d3 ltd
    obtain ⟨d0, d1, d2, d3⟩ := Hbox.out.cells
    have ltd := Hbox.out.lt
    go_wp2_with fail
    refine (least_yes d cs x An Aa Ac cn ca cc w5 (HD.out.up HW.out) (HC.out.up HW.out) HF.out (by omega)).mono ?_
    rintro e w6 ⟨o, A6, c6, rfl, hP, _, hlen, hr6, hb1⟩
    replace Hbox := Lib.hid (Hbox.out.up hb1); replace HW := Lib.hid (bel_step HW.out hb1)
    clear hb1 d0 d1 d2 d3 ltd
    cases o with
    | none =>
      exfalso
      have := hP ws HTO.out
      have := HXW.out
      omega
    | some W =>
      have hWl := hlen W rfl
      have hW : WIn w6 W A6 := ⟨by omega, hr6⟩
      have HWW := Lib.hid hW; have HP := Lib.hid hP
      have hsy : symsB d.K W = true := hP.1.told.1
      have hcb : costB cs W = costW cs W := costB_fit HF.out hsy
      have htl : d.tells W = true := (told_tells HF.out.ok).1 hP.1.told
      have hge : 0 ≤ costW cs W := by have := HF.out.len_le W hsy; omega
      have hle : costW cs W ≤ x := hP.2
      obtain ⟨y, hy⟩ : ∃ y, costW cs W = y := ⟨_, rfl⟩
      have HY := Lib.hid hy
      have hsm : x = y → smB ws W = false := fun e => by
        rcases hP.1.ahead ws HTO.out (by rw [HXW.out, hy]; exact e) with h1 | h1
        · rw [h1]; exact smB_irr _
        · exact smB_asymm _ _ h1
      have HSM := Lib.hid hsm
      rw [hy] at hge hle hcb
      have c29' := fun (W' : World) (hb : Below w6.heap.size w6 W') (hb0 : Below w.heap.size w W') => tells_c (HD.out.up hb0) (HWW.out.up hb) cn ca c6
      rw [htl] at c29'
      have c52' := fun (W' : World) (hb : Below w6.heap.size w6 W') (hb0 : Below w.heap.size w W') => refCost_any A6 Ac c6 cc cs W W' (HC.out.up hb0) (HWW.out.up hb) (by omega)
      rw [hcb] at c52'
      have C29' := Lib.hid c29'; have C52' := Lib.hid c52'
      clear c29' c52' hcb htl hsm hsy hP hr6 hW hlen hy
      obtain ⟨d0, d1, d2, d3⟩ := Hbox.out.cells
      have ltd := Hbox.out.lt
      simp only [Option.getD_some, Option.isSome_some]
      go_wp2_with fail
      refine (C29'.out _ (Below.refl _ _) HW.out).mono ?_
      rintro e w7 ⟨rfl, hb1⟩
      have HB7 := Lib.hid hb1
      replace HW := Lib.hid (bel_step HW.out hb1)
      clear hb1 d0 d1 d2 d3 ltd
      go_wp2_with fail
      refine (C52'.out _ HB7.out HW.out).mono ?_
      rintro e w8 ⟨rfl, hb1⟩
      replace HB7 := Lib.hid (bel_step HB7.out hb1)
      replace HW := Lib.hid (bel_step HW.out hb1)
      clear hb1
      by_cases hlt : y < x
      · go_wp2_with fail
        go_ret
        exact ⟨rfl, HW.out⟩
      · have hxy : x = y := by omega
        have hsm := HSM.out hxy
        have c54 := fun (W' : World) (hb : Below w6.heap.size w6 W') (hb0 : Below w.heap.size w W') => smaller_any A A6 c c6 ws W W' (HWI.out.up hb0) (HWW.out.up hb)
        rw [hsm] at c54
        have C54 := Lib.hid c54
        clear c54 hsm hxy
        go_wp2_with fail
        refine (C54.out _ HB7.out HW.out).mono ?_
        rintro e w9 ⟨rfl, hb1⟩
        go_wp2_with fail
        go_ret
        exact ⟨rfl, bel_step HW.out hb1⟩
theorem shortLeast_law (hd : DIn w d An Aa) (hc : WIn w cs Ac) (hw : WIn w ws A) : Calls Try.prog 12 #[dfaV d.K d.S An d.N.length cn Aa d.A.length ca, .slice Ac cs.length cc, .slice A ws.length c] w (Ret (.bool true) w) := by
  rcases hg : great17 d cs with _ | _
  · by_cases hl : 60 < ws.length
    · exact shortLeast_long d cs ws An Aa Ac A cn ca cc c w hd hg hl
    · rcases hr : right17 d cs with _ | _
      · exact shortLeast_no d cs ws An Aa Ac A cn ca cc c w hd hc hg (by omega) hr
      · exact shortLeast_yes d cs ws An Aa Ac A cn ca cc c w hd hc hw hg (by omega) hr
  · exact shortLeast_great d cs ws An Aa Ac A cn ca cc c w hd hg
end
end Go.Proofs.Ytmpcoclgcldclaa
