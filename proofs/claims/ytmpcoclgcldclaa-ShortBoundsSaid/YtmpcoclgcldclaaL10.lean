/- The walk of the law ShortBounds. -/
import Derived.Test.YtmpcoclgcldclaaL12
namespace Go.Proofs.Ytmpcoclgcldclaa
open Go.RowKit
attribute [local go_sem ↓] Go.wp_at_zero Go.wp_at_succ

theorem noneD_of {k : Int} (h1 : 1 ≤ k) (h2 : k ≤ 512) : noneD k = { K := k, S := 0, N := List.replicate k.toNat 0, A := [false] } := if_pos ⟨h1, h2⟩
theorem noneD_ok {k : Int} (h1 : 1 ≤ k) (h2 : k ≤ 512) : (noneD k).Ok ∧ (noneD k).K = k ∧ (noneD k).A.length = 1 ∧ ∀ s, (noneD k).acc s = false := by
  rw [noneD_of h1 h2]
  refine ⟨⟨h1, h2, by simp, by simp, by simp; omega, by simp, by simp, fun s hs => ?_⟩, rfl, rfl, fun s => ?_⟩
  · rw [(List.mem_replicate.1 hs).2]; simp
  · show [false].getD s.toNat false = false
    rcases s.toNat with _ | n <;> simp
theorem none_like {d : D} (hK : 1 ≤ d.K ∧ d.K ≤ 512) (h : ∀ u, ¬ Told d d.S u) : LikeP d (noneD d.K) := by
  rintro p ⟨u, hu, rfl⟩
  rw [(noneD_ok hK.1 hK.2).2.2.2]
  rcases hb : d.acc (runP d (noneD d.K) u).1 with _ | _
  · rfl
  · exact absurd ⟨hu, hb⟩ (h u)
section
variable (d : D) (cs : List Int) (more : Int) (An Aa Ac : Option Addr) (cn ca cc : Nat) (w : World)
set_option maxHeartbeats 2000000 in
set_option maxRecDepth 100000 in
theorem shortBounds_great (hd : DIn w d An Aa) (hg : great17 d cs = true) : Calls Try.prog 10 #[dfaV d.K d.S An d.N.length cn Aa d.A.length ca, .slice Ac cs.length cc, .int .u8 more] w (Ret (.bool true) w) := by
  have c47 := fun (W : World) => great17_any d cs An Aa Ac cn ca cc W
  rw [hg] at c47
  have C47 := Lib.hid c47
  have Hbox := Lib.hid (HasD.new hd cn ca)
  have HW := Lib.hid (bel_new w (boxV d An cn Aa ca))
  clear hd hg c47
  go_enter Try.func10, Try.ntmps10
  go_wp2_with fail
  refine (shortAlive_any _).mono ?_
  rintro e w1 ⟨rfl, hb1⟩
  replace Hbox := Lib.hid (Hbox.out.up hb1); replace HW := Lib.hid (bel_step HW.out hb1)
  obtain ⟨d0, d1, d2, d3⟩ := Hbox.out.cells
  have ltd := Hbox.out.lt
  clear hb1
  go_wp2_with fail
  refine (C47.out _).mono ?_
  rintro e w2 ⟨rfl, hb1⟩
  go_wp2_with fail
  go_ret
  exact ⟨rfl, bel_step HW.out hb1⟩
set_option maxHeartbeats 2000000 in
set_option maxRecDepth 100000 in
theorem shortBounds_no (hd : DIn w d An Aa) (hc : WIn w cs Ac) (hg : great17 d cs = false) (hr : right17 d cs = false) : Calls Try.prog 10 #[dfaV d.K d.S An d.N.length cn Aa d.A.length ca, .slice Ac cs.length cc, .int .u8 more] w (Ret (.bool true) w) := by
  have c47 := fun (W : World) => great17_any d cs An Aa Ac cn ca cc W
  rw [hg] at c47
  have c49 := fun (W : World) (hb : Below w.heap.size w W) => right17_any d cs An Aa Ac cn ca cc W (hd.up hb) (hc.up hb)
  rw [hr] at c49
  have C47 := Lib.hid c47; have C49 := Lib.hid c49
  have Hbox := Lib.hid (HasD.new hd cn ca)
  have HW := Lib.hid (bel_new w (boxV d An cn Aa ca))
  clear hd hc hg hr c47 c49
  go_enter Try.func10, Try.ntmps10
  go_wp2_with fail
  refine (shortAlive_any _).mono ?_
  rintro e w1 ⟨rfl, hb1⟩
  replace Hbox := Lib.hid (Hbox.out.up hb1); replace HW := Lib.hid (bel_step HW.out hb1)
  obtain ⟨d0, d1, d2, d3⟩ := Hbox.out.cells
  have ltd := Hbox.out.lt
  clear hb1
  go_wp2_with fail
  refine (C47.out _).mono ?_
  rintro e w2 ⟨rfl, hb1⟩
  replace Hbox := Lib.hid (Hbox.out.up hb1); replace HW := Lib.hid (bel_step HW.out hb1)
  clear hb1 d0 d1 d2 d3 ltd
  obtain ⟨d0, d1, d2, d3⟩ := Hbox.out.cells
  have ltd := Hbox.out.lt
  go_wp2_with fail
  refine (C49.out _ HW.out).mono ?_
  rintro e w3 ⟨rfl, hb1⟩
  go_wp2_with fail
  go_ret
  exact ⟨rfl, bel_step HW.out hb1⟩
set_option maxHeartbeats 8000000 in
set_option maxRecDepth 100000 in
theorem shortBounds_yes (hm : 0 ≤ more ∧ more ≤ 255) (hd : DIn w d An Aa) (hc : WIn w cs Ac) (hg : great17 d cs = false) (hr : right17 d cs = true) : Calls Try.prog 10 #[dfaV d.K d.S An d.N.length cn Aa d.A.length ca, .slice Ac cs.length cc, .int .u8 more] w (Ret (.bool true) w) := by
  have hf := right17_fit.1 hr
  obtain ⟨hgA, hgN, hgC, hgK⟩ := great17_no hg
  obtain ⟨hm0, hm1⟩ := hm
  have c47 := fun (W : World) => great17_any d cs An Aa Ac cn ca cc W
  rw [hg] at c47
  have c49 := fun (W : World) (hb : Below w.heap.size w W) => right17_any d cs An Aa Ac cn ca cc W (hd.up hb) (hc.up hb)
  rw [hr] at c49
  have C47 := Lib.hid c47; have C49 := Lib.hid c49
  have Hbox := Lib.hid (HasD.new hd cn ca)
  have HW := Lib.hid (bel_new w (boxV d An cn Aa ca))
  have HD := Lib.hid hd; have HC := Lib.hid hc; have HF := Lib.hid hf
  clear hd hc hg hr c47 c49 hf
  go_enter Try.func10, Try.ntmps10
  go_wp2_with fail
  refine (shortAlive_any _).mono ?_
  rintro e w1 ⟨rfl, hb1⟩
  replace Hbox := Lib.hid (Hbox.out.up hb1); replace HW := Lib.hid (bel_step HW.out hb1)
  obtain ⟨d0, d1, d2, d3⟩ := Hbox.out.cells
  have ltd := Hbox.out.lt
  clear hb1
  go_wp2_with fail
  refine (C47.out _).mono ?_
  rintro e w2 ⟨rfl, hb1⟩
  replace Hbox := Lib.hid (Hbox.out.up hb1); replace HW := Lib.hid (bel_step HW.out hb1)
  clear hb1 d0 d1 d2 d3 ltd
  obtain ⟨d0, d1, d2, d3⟩ := Hbox.out.cells
  have ltd := Hbox.out.lt
  go_wp2_with fail
  refine (C49.out _ HW.out).mono ?_
  rintro e w3 ⟨rfl, hb1⟩
  replace Hbox := Lib.hid (Hbox.out.up hb1); replace HW := Lib.hid (bel_step HW.out hb1)
  clear hb1 d0 d1 d2 d3 ltd
  obtain ⟨d0, d1, d2, d3⟩ := Hbox.out.cells
  have ltd := Hbox.out.lt
  go_wp2_with fail
  refine (least_yes d cs 1099511627776 An Aa Ac cn ca cc w3 (HD.out.up HW.out) (HC.out.up HW.out) HF.out (by omega)).mono ?_
  rintro e w4 ⟨o, A4, c4, rfl, hP, hno, hlen, hr4, hb1⟩
  replace Hbox := Lib.hid (Hbox.out.up hb1); replace HW := Lib.hid (bel_step HW.out hb1)
  clear hb1 d0 d1 d2 d3 ltd
  obtain ⟨d0, d1, d2, d3⟩ := Hbox.out.cells
  have ltd := Hbox.out.lt
  have hK1 : 1 ≤ d.K := HF.out.ok.1
  have hK2 : d.K ≤ 512 := HF.out.ok.2.1
  cases o with
  | none =>
    have hno' : ∀ u, ¬ Told d d.S u := by
      rcases hno rfl with h | h
      · exact h
      · omega
    have hlk := none_like ⟨hK1, hK2⟩ hno'
    have HLK := Lib.hid hlk
    obtain ⟨hok2, hk2, hl2, _⟩ := noneD_ok hK1 hK2
    have c33 := fun (W : World) => none_any d.K W
    rw [show noneE d.K = 0 from if_pos ⟨hK1, hK2⟩] at c33
    obtain ⟨b, hb⟩ : ∃ b, b = noneD d.K := ⟨_, rfl⟩
    rw [← hb] at c33 hok2 hk2 hl2 HLK
    have C33 := Lib.hid c33; have HOK2 := Lib.hid hok2; have HK2 := Lib.hid hk2
    have hbn : b.N.length ≤ 100000 := by
      have h1 := hok2.2.2.2.2.1
      rw [hl2, hk2] at h1
      omega
    have hl2' : b.A.length ≤ 1000 := by omega
    clear c33 hok2 hk2 hb hno hno' hP hlen hr4 hlk
    have HL2 := Lib.hid hl2
    clear hl2
    simp only [Option.getD_none, Option.isSome_none]
    go_wp2_with fail
    refine (C33.out _).mono ?_
    rintro e w5 ⟨v, rfl, hx, hb1⟩
    obtain ⟨Bn, bn, Ba, ba, rfl, hdi⟩ := hx.din ⟨by omega, by omega⟩
    replace Hbox := Lib.hid (Hbox.out.up hb1); replace HW := Lib.hid (bel_step HW.out hb1)
    have HBB := Lib.hid (HasD.new hdi bn ba)
    clear hb1 hx hdi d0 d1 d2 d3 ltd
    obtain ⟨d0, d1, d2, d3⟩ := Hbox.out.cells
    have ltd := Hbox.out.lt
    go_wp2_with fail
    refine (like_c (Hbox.out.alloc (boxV b Bn bn Ba ba)).din HBB.out.din HF.out.ok HOK2.out HK2.out.symm (by rw [HL2.out]; omega) cn ca bn ba).mono ?_
    rintro e w6 ⟨r, rfl, hr, hb1⟩
    obtain rfl := hr.2 HLK.out
    go_wp2_with fail
    go_ret
    exact ⟨rfl, bel_step (bel_alloc HW.out (boxV b Bn bn Ba ba)) hb1⟩
  | some W =>
    have hWl := hlen W rfl
    have hW : WIn w4 W A4 := ⟨by omega, hr4⟩
    have hsy : symsB d.K W = true := hP.1.told.1
    have hcb : costB cs W = costW cs W := costB_fit HF.out hsy
    have hge : 0 ≤ costW cs W := by have := HF.out.len_le W hsy; omega
    have hle : costW cs W ≤ 1099511627776 := hP.2
    obtain ⟨y, hy⟩ : ∃ y, costW cs W = y := ⟨_, rfl⟩
    have hp1 : LeastP d cs (y - 1) none := fun u hu => by have := hP.1.least u hu; omega
    have hp2 : LeastP d cs (y + more) (some W) := hP.more (by omega)
    rw [hy] at hge hle hcb
    have HWW := Lib.hid hW; have HP1 := Lib.hid hp1; have HP2 := Lib.hid hp2
    have c52' := fun (W' : World) (hb : Below w4.heap.size w4 W') (hb0 : Below w.heap.size w W') => refCost_any A4 Ac c4 cc cs W W' (HC.out.up hb0) (HWW.out.up hb) (by omega)
    rw [hcb] at c52'
    have C52' := Lib.hid c52'
    have hc1 : IntKind.i64.wrap (y - 1) = y - 1 := by rw [IntKind.wrap_i64]; omega
    have hc2 : IntKind.i64.wrap more = more := by rw [IntKind.wrap_i64]; omega
    have hc3 : IntKind.i64.wrap (y + more) = y + more := by rw [IntKind.wrap_i64]; omega
    clear c52' hcb hsy hP hno hlen hr4 hW hy hp1 hp2
    simp only [Option.getD_some, Option.isSome_some]
    go_wp2_with fail
    refine (C52'.out _ (Below.refl _ _) HW.out).mono ?_
    rintro e w5 ⟨rfl, hb1⟩
    replace Hbox := Lib.hid (Hbox.out.up hb1); replace HW := Lib.hid (bel_step HW.out hb1)
    have HB4 := Lib.hid hb1
    clear hb1 d0 d1 d2 d3 ltd
    obtain ⟨d0, d1, d2, d3⟩ := Hbox.out.cells
    have ltd := Hbox.out.lt
    go_wp2_with fail
    refine (least_is (o := none) (HD.out.up HW.out) (HC.out.up HW.out) HF.out (by omega) HP1.out cn ca cc).mono ?_
    rintro e w6 ⟨A6, c6, rfl, _, _, hb1⟩
    replace Hbox := Lib.hid (Hbox.out.up hb1); replace HW := Lib.hid (bel_step HW.out hb1)
    replace HB4 := Lib.hid (bel_step HB4.out hb1)
    clear hb1 d0 d1 d2 d3 ltd
    obtain ⟨d0, d1, d2, d3⟩ := Hbox.out.cells
    have ltd := Hbox.out.lt
    simp only [Option.getD_none, Option.isSome_none]
    go_wp2_with fail
    refine (least_is (o := some W) (HD.out.up HW.out) (HC.out.up HW.out) HF.out (by omega) HP2.out cn ca cc).mono ?_
    rintro e w7 ⟨A7, c7, rfl, _, hr7, hb1⟩
    replace Hbox := Lib.hid (Hbox.out.up hb1); replace HW := Lib.hid (bel_step HW.out hb1)
    replace HB4 := Lib.hid (bel_step HB4.out hb1)
    have HW7 : Hid (WIn w7 W A7) := ⟨by omega, hr7⟩
    clear hb1 d0 d1 d2 d3 ltd hr7
    obtain ⟨d0, d1, d2, d3⟩ := Hbox.out.cells
    have ltd := Hbox.out.lt
    have c51 := same_any A7 A4 c7 c4 W W w7 HW7.out (HWW.out.up HB4.out)
    rw [decide_eq_true rfl] at c51
    have C51 := Lib.hid c51
    clear c51
    simp only [Option.getD_some, Option.isSome_some]
    go_wp2_with fail
    refine (C51.out).mono ?_
    rintro e w8 ⟨rfl, hb1⟩
    replace Hbox := Lib.hid (Hbox.out.up hb1); replace HW := Lib.hid (bel_step HW.out hb1)
    clear hb1 d0 d1 d2 d3 ltd
    obtain ⟨d0, d1, d2, d3⟩ := Hbox.out.cells
    have ltd := Hbox.out.lt
    go_wp2_with fail
    go_ret
    exact ⟨ret_bool (by simp), HW.out⟩
theorem shortBounds_law (hm : 0 ≤ more ∧ more ≤ 255) (hd : DIn w d An Aa) (hc : WIn w cs Ac) : Calls Try.prog 10 #[dfaV d.K d.S An d.N.length cn Aa d.A.length ca, .slice Ac cs.length cc, .int .u8 more] w (Ret (.bool true) w) := by
  rcases hg : great17 d cs with _ | _
  · rcases hr : right17 d cs with _ | _
    · exact shortBounds_no d cs more An Aa Ac cn ca cc w hd hc hg hr
    · exact shortBounds_yes d cs more An Aa Ac cn ca cc w hm hd hc hg hr
  · exact shortBounds_great d cs more An Aa Ac cn ca cc w hd hg
end
end Go.Proofs.Ytmpcoclgcldclaa
