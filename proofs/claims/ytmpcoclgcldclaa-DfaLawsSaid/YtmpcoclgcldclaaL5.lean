/- The walk of the law DfaNot. -/
import Derived.Test.YtmpcoclgcldclaaX
namespace Go.Proofs.Ytmpcoclgcldclaa
open Go.RowKit
attribute [local go_sem ↓] Go.wp_at_zero Go.wp_at_succ

theorem notD_ok {d : D} (h : d.Ok) : (notD d).Ok := by
  have e : (notD d).A.length = d.A.length := by simp [notD]
  obtain ⟨h1, h2, h3, h4, h5, h6, h7, h8⟩ := h
  exact ⟨h1, h2, by rw [e]; exact h3, by rw [e]; exact h4, by rw [e]; exact h5, h6, by rw [e]; exact h7, by rw [e]; exact h8⟩
theorem notD_twice (d : D) : notD (notD d) = d := by
  obtain ⟨K, S, N, A⟩ := d
  simp [notD, Function.comp_def]
theorem likeP_self (d : D) : LikeP d d := by
  rintro p ⟨w, _, rfl⟩
  rfl
theorem notD_tells {d : D} (h : d.Ok) (ws : List Int) : (notD d).tells ws = (symsB d.K ws && !d.tells ws) := by
  unfold D.tells
  rw [D.right_true.2 h, D.right_true.2 (notD_ok h)]
  show (true && (symsB d.K ws && _)) = _
  cases hs : symsB d.K ws
  · rfl
  · have hr : (notD d).run (notD d).S ws = d.run d.S ws := rfl
    simp only [Bool.true_and]
    rw [hr]
    have hlt := h.run_lt ws ⟨h.2.2.2.2.2.1, h.2.2.2.2.2.2.1⟩ hs
    unfold D.acc
    have hl : (d.run d.S ws).toNat < d.A.length := by omega
    rw [List.getD_eq_getElem?_getD, List.getD_eq_getElem?_getD, List.getElem?_eq_getElem hl]
    show (d.A.map (!·))[_]?.getD false = _
    rw [List.getElem?_map, List.getElem?_eq_getElem hl]
    rfl

set_option maxHeartbeats 2000000 in
set_option maxRecDepth 100000 in
theorem dfaNot_great (d : D) (An Aa A : Option Addr) (cn ca cw : Nat) (ws : List Int) (w : World) (hd : DIn w d An Aa) (hw : WIn w ws A) (hg : d.great = true) :
    Calls Try.prog 5 #[dfaV d.K d.S An d.N.length cn Aa d.A.length ca, .slice A ws.length cw] w (Ret (.bool true) w) := by
  have HG := Lib.hid hg; clear hg
  have Hd := Lib.hid (HasD.new hd cn ca)
  have Ww := Lib.hid (hw.alloc (.cells #[.int .i64 d.K, .int .i64 d.S, .slice An d.N.length cn, .slice Aa d.A.length ca] 25))
  have HW := Lib.hid (bel_new w (.cells #[.int .i64 d.K, .int .i64 d.S, .slice An d.N.length cn, .slice Aa d.A.length ca] 25))
  clear hd hw
  go_enter Try.func5, Try.ntmps5
  go_wp2_with fail
  refine (alive_c _).mono ?_
  rintro e w1 ⟨rfl, hb⟩
  replace Hd := Lib.hid (Hd.out.up hb)
  replace Ww := Lib.hid (Ww.out.up hb)
  replace HW := Lib.hid (bel_step HW.out hb)
  clear hb
  obtain ⟨d0, d1, d2, d3⟩ := Hd.out.cells
  have ltd := Hd.out.lt
  go_wp2_with fail
  refine (great_c d An Aa cn ca _).mono ?_
  rintro e w2 ⟨rfl, hb⟩
  replace Hd := Lib.hid (Hd.out.up hb)
  replace Ww := Lib.hid (Ww.out.up hb)
  replace HW := Lib.hid (bel_step HW.out hb)
  clear d0 d1 d2 d3 ltd
  clear hb
  obtain ⟨d0, d1, d2, d3⟩ := Hd.out.cells
  have ltd := Hd.out.lt
  rw [HG.out]
  go_wp2_with fail
  go_ret
  exact ⟨rfl, HW.out⟩
set_option maxHeartbeats 2000000 in
set_option maxRecDepth 100000 in
theorem dfaNot_long (d : D) (An Aa A : Option Addr) (cn ca cw : Nat) (ws : List Int) (w : World) (hd : DIn w d An Aa) (hw : WIn w ws A) (hg : d.great = false) (hl : 200 < ws.length) :
    Calls Try.prog 5 #[dfaV d.K d.S An d.N.length cn Aa d.A.length ca, .slice A ws.length cw] w (Ret (.bool true) w) := by
  have HG := Lib.hid hg; clear hg
  have Hd := Lib.hid (HasD.new hd cn ca)
  have Ww := Lib.hid (hw.alloc (.cells #[.int .i64 d.K, .int .i64 d.S, .slice An d.N.length cn, .slice Aa d.A.length ca] 25))
  have HW := Lib.hid (bel_new w (.cells #[.int .i64 d.K, .int .i64 d.S, .slice An d.N.length cn, .slice Aa d.A.length ca] 25))
  clear hd hw
  go_enter Try.func5, Try.ntmps5
  go_wp2_with fail
  refine (alive_c _).mono ?_
  rintro e w1 ⟨rfl, hb⟩
  replace Hd := Lib.hid (Hd.out.up hb)
  replace Ww := Lib.hid (Ww.out.up hb)
  replace HW := Lib.hid (bel_step HW.out hb)
  clear hb
  obtain ⟨d0, d1, d2, d3⟩ := Hd.out.cells
  have ltd := Hd.out.lt
  go_wp2_with fail
  refine (great_c d An Aa cn ca _).mono ?_
  rintro e w2 ⟨rfl, hb⟩
  replace Hd := Lib.hid (Hd.out.up hb)
  replace Ww := Lib.hid (Ww.out.up hb)
  replace HW := Lib.hid (bel_step HW.out hb)
  clear d0 d1 d2 d3 ltd
  clear hb
  obtain ⟨d0, d1, d2, d3⟩ := Hd.out.cells
  have ltd := Hd.out.lt
  rw [HG.out]
  go_wp2_with fail
  go_ret
  exact ⟨rfl, HW.out⟩
set_option maxHeartbeats 2000000 in
set_option maxRecDepth 100000 in
theorem dfaNot_no (d : D) (An Aa A : Option Addr) (cn ca cw : Nat) (ws : List Int) (w : World) (hd : DIn w d An Aa) (hw : WIn w ws A) (hg : d.great = false) (hl : ¬ 200 < ws.length) (hr : d.right = false) :
    Calls Try.prog 5 #[dfaV d.K d.S An d.N.length cn Aa d.A.length ca, .slice A ws.length cw] w (Ret (.bool true) w) := by
  have HG := Lib.hid hg; clear hg
  have hnot := fun (W : World) (h : DIn W d An Aa) => not_c h cn ca
  have e1 : notE d = zeroD := if_neg (D.right_false.1 hr)
  have e2 : okE d.right = 151 := by rw [hr]; rfl
  rw [e1, e2] at hnot
  have HN := Lib.hid hnot; have HR := Lib.hid hr
  clear hnot e1 e2 hr
  have Hd := Lib.hid (HasD.new hd cn ca)
  have Ww := Lib.hid (hw.alloc (.cells #[.int .i64 d.K, .int .i64 d.S, .slice An d.N.length cn, .slice Aa d.A.length ca] 25))
  have HW := Lib.hid (bel_new w (.cells #[.int .i64 d.K, .int .i64 d.S, .slice An d.N.length cn, .slice Aa d.A.length ca] 25))
  clear hd hw
  go_enter Try.func5, Try.ntmps5
  go_wp2_with fail
  refine (alive_c _).mono ?_
  rintro e w1 ⟨rfl, hb⟩
  replace Hd := Lib.hid (Hd.out.up hb)
  replace Ww := Lib.hid (Ww.out.up hb)
  replace HW := Lib.hid (bel_step HW.out hb)
  clear hb
  obtain ⟨d0, d1, d2, d3⟩ := Hd.out.cells
  have ltd := Hd.out.lt
  go_wp2_with fail
  refine (great_c d An Aa cn ca _).mono ?_
  rintro e w2 ⟨rfl, hb⟩
  replace Hd := Lib.hid (Hd.out.up hb)
  replace Ww := Lib.hid (Ww.out.up hb)
  replace HW := Lib.hid (bel_step HW.out hb)
  clear d0 d1 d2 d3 ltd
  clear hb
  obtain ⟨d0, d1, d2, d3⟩ := Hd.out.cells
  have ltd := Hd.out.lt
  rw [HG.out]
  go_wp2_with fail
  refine (HN.out _ Hd.out.din).mono ?_
  rintro e w3 ⟨v, rfl, hx, hb⟩
  replace Hd := Lib.hid (Hd.out.up hb)
  replace Ww := Lib.hid (Ww.out.up hb)
  replace HW := Lib.hid (bel_step HW.out hb)
  clear d0 d1 d2 d3 ltd
  clear hb
  obtain ⟨Xn, xn, Xa, xa, rfl, dx⟩ := hx.din (by simp [zeroD])
  clear hx
  obtain ⟨d0, d1, d2, d3⟩ := Hd.out.cells
  have ltd := Hd.out.lt
  have Hx := Lib.hid (HasD.new dx xn xa)
  replace Hd := Lib.hid (Hd.out.alloc (.cells #[.int .i64 zeroD.K, .int .i64 zeroD.S, .slice Xn zeroD.N.length xn, .slice Xa zeroD.A.length xa] 25))
  replace Ww := Lib.hid (Ww.out.alloc (.cells #[.int .i64 zeroD.K, .int .i64 zeroD.S, .slice Xn zeroD.N.length xn, .slice Xa zeroD.A.length xa] 25))
  replace HW := Lib.hid (bel_alloc HW.out (.cells #[.int .i64 zeroD.K, .int .i64 zeroD.S, .slice Xn zeroD.N.length xn, .slice Xa zeroD.A.length xa] 25))
  clear dx
  go_wp2_with fail
  refine (refRight_c Hd.out.din cn ca).mono ?_
  rintro e w4 ⟨rfl, hb⟩
  replace Hd := Lib.hid (Hd.out.up hb)
  replace Hx := Lib.hid (Hx.out.up hb)
  replace Ww := Lib.hid (Ww.out.up hb)
  replace HW := Lib.hid (bel_step HW.out hb)
  clear d0 d1 d2 d3 ltd
  clear hb
  obtain ⟨d0, d1, d2, d3⟩ := Hd.out.cells
  have ltd := Hd.out.lt
  obtain ⟨x0, x1, x2, x3⟩ := Hx.out.cells
  have ltx := Hx.out.lt
  rw [HR.out]
  go_wp2_with fail
  refine (zero_c zeroD Xn Xa xn xa _).mono ?_
  rintro e w5 ⟨rfl, hb⟩
  replace Hd := Lib.hid (Hd.out.up hb)
  replace Hx := Lib.hid (Hx.out.up hb)
  replace Ww := Lib.hid (Ww.out.up hb)
  replace HW := Lib.hid (bel_step HW.out hb)
  clear d0 d1 d2 d3 ltd
  clear x0 x1 x2 x3 ltx
  clear hb
  obtain ⟨d0, d1, d2, d3⟩ := Hd.out.cells
  have ltd := Hd.out.lt
  obtain ⟨x0, x1, x2, x3⟩ := Hx.out.cells
  have ltx := Hx.out.lt
  rw [zeroD_zero]
  go_wp2_with fail
  go_ret
  exact ⟨rfl, HW.out⟩
set_option maxHeartbeats 2000000 in
set_option maxRecDepth 100000 in
theorem dfaNot_yes_false (d : D) (An Aa A : Option Addr) (cn ca cw : Nat) (ws : List Int) (w : World) (hd : DIn w d An Aa) (hw : WIn w ws A) (hg : d.great = false) (hl : ¬ 200 < ws.length) (hr : d.right = true) (hs : symsB d.K ws = false) :
    Calls Try.prog 5 #[dfaV d.K d.S An d.N.length cn Aa d.A.length ca, .slice A ws.length cw] w (Ret (.bool true) w) := by
  have HG := Lib.hid hg; clear hg
  have hok := D.right_true.1 hr
  have hnot := fun (W : World) (h : DIn W d An Aa) => not_c h cn ca
  have e1 : notE d = notD d := if_pos hok
  have e2 : okE d.right = 0 := by rw [hr]; rfl
  rw [e1, e2] at hnot
  have hxo := notD_ok hok
  have hxl : (notD d).A.length = d.A.length := by simp [notD]
  have hxn : (notD d).N.length = d.N.length := rfl
  have hxt := notD_tells hok ws
  have hxk : (notD d).K = d.K := rfl
  have hnot2 := fun (W : World) (An Aa : Option Addr) (cn ca : Nat) (h : DIn W (notD d) An Aa) => not_c h cn ca
  have e3 : notE (notD d) = d := (if_pos hxo).trans (notD_twice d)
  have e4 : okE (notD d).right = 0 := by rw [D.right_true.2 hxo]; rfl
  rw [e3, e4] at hnot2
  obtain ⟨x, hx⟩ : ∃ x, x = notD d := ⟨_, rfl⟩
  rw [← hx] at hnot hxo hxl hxn hxt hxk hnot2
  have hxr := D.right_true.2 hxo
  have HN := Lib.hid hnot; have HR := Lib.hid hr; have HXO := Lib.hid hxo; have HXL := Lib.hid hxl; have HXN := Lib.hid hxn; have HXT := Lib.hid hxt; have HXK := Lib.hid hxk; have HN2 := Lib.hid hnot2; have HXR := Lib.hid hxr; have HOK := Lib.hid hok
  have hsz := D.great_no HG.out
  obtain ⟨hz1, hz2, _⟩ := hsz
  have HS := Lib.hid hs; clear hs
  clear hnot e1 e2 e3 e4 hr hxo hxl hxn hxt hxk hnot2 hxr hok hx
  have Hd := Lib.hid (HasD.new hd cn ca)
  have Ww := Lib.hid (hw.alloc (.cells #[.int .i64 d.K, .int .i64 d.S, .slice An d.N.length cn, .slice Aa d.A.length ca] 25))
  have HW := Lib.hid (bel_new w (.cells #[.int .i64 d.K, .int .i64 d.S, .slice An d.N.length cn, .slice Aa d.A.length ca] 25))
  clear hd hw
  go_enter Try.func5, Try.ntmps5
  go_wp2_with fail
  refine (alive_c _).mono ?_
  rintro e w1 ⟨rfl, hb⟩
  replace Hd := Lib.hid (Hd.out.up hb)
  replace Ww := Lib.hid (Ww.out.up hb)
  replace HW := Lib.hid (bel_step HW.out hb)
  clear hb
  obtain ⟨d0, d1, d2, d3⟩ := Hd.out.cells
  have ltd := Hd.out.lt
  go_wp2_with fail
  refine (great_c d An Aa cn ca _).mono ?_
  rintro e w2 ⟨rfl, hb⟩
  replace Hd := Lib.hid (Hd.out.up hb)
  replace Ww := Lib.hid (Ww.out.up hb)
  replace HW := Lib.hid (bel_step HW.out hb)
  clear d0 d1 d2 d3 ltd
  clear hb
  obtain ⟨d0, d1, d2, d3⟩ := Hd.out.cells
  have ltd := Hd.out.lt
  rw [HG.out]
  go_wp2_with fail
  refine (HN.out _ Hd.out.din).mono ?_
  rintro e w3 ⟨v, rfl, hx, hb⟩
  replace Hd := Lib.hid (Hd.out.up hb)
  replace Ww := Lib.hid (Ww.out.up hb)
  replace HW := Lib.hid (bel_step HW.out hb)
  clear d0 d1 d2 d3 ltd
  clear hb
  obtain ⟨Xn, xn, Xa, xa, rfl, dx⟩ := hx.din (by rw [HXL.out, HXN.out]; omega)
  clear hx
  obtain ⟨d0, d1, d2, d3⟩ := Hd.out.cells
  have ltd := Hd.out.lt
  have Hx := Lib.hid (HasD.new dx xn xa)
  replace Hd := Lib.hid (Hd.out.alloc (.cells #[.int .i64 x.K, .int .i64 x.S, .slice Xn x.N.length xn, .slice Xa x.A.length xa] 25))
  replace Ww := Lib.hid (Ww.out.alloc (.cells #[.int .i64 x.K, .int .i64 x.S, .slice Xn x.N.length xn, .slice Xa x.A.length xa] 25))
  replace HW := Lib.hid (bel_alloc HW.out (.cells #[.int .i64 x.K, .int .i64 x.S, .slice Xn x.N.length xn, .slice Xa x.A.length xa] 25))
  clear dx
  go_wp2_with fail
  refine (refRight_c Hd.out.din cn ca).mono ?_
  rintro e w4 ⟨rfl, hb⟩
  replace Hd := Lib.hid (Hd.out.up hb)
  replace Hx := Lib.hid (Hx.out.up hb)
  replace Ww := Lib.hid (Ww.out.up hb)
  replace HW := Lib.hid (bel_step HW.out hb)
  clear d0 d1 d2 d3 ltd
  clear hb
  obtain ⟨d0, d1, d2, d3⟩ := Hd.out.cells
  have ltd := Hd.out.lt
  obtain ⟨x0, x1, x2, x3⟩ := Hx.out.cells
  have ltx := Hx.out.lt
  rw [HR.out]
  go_wp2_with fail
  refine (HN2.out _ _ _ xn xa Hx.out.din).mono ?_
  rintro e w5 ⟨v, rfl, hy, hb⟩
  replace Hd := Lib.hid (Hd.out.up hb)
  replace Hx := Lib.hid (Hx.out.up hb)
  replace Ww := Lib.hid (Ww.out.up hb)
  replace HW := Lib.hid (bel_step HW.out hb)
  clear d0 d1 d2 d3 ltd
  clear x0 x1 x2 x3 ltx
  clear hb
  obtain ⟨Yn, yn, Ya, ya, rfl, dy⟩ := hy.din (by omega)
  clear hy
  obtain ⟨d0, d1, d2, d3⟩ := Hd.out.cells
  have ltd := Hd.out.lt
  obtain ⟨x0, x1, x2, x3⟩ := Hx.out.cells
  have ltx := Hx.out.lt
  have Hy := Lib.hid (HasD.new dy yn ya)
  replace Hd := Lib.hid (Hd.out.alloc (.cells #[.int .i64 d.K, .int .i64 d.S, .slice Yn d.N.length yn, .slice Ya d.A.length ya] 25))
  replace Hx := Lib.hid (Hx.out.alloc (.cells #[.int .i64 d.K, .int .i64 d.S, .slice Yn d.N.length yn, .slice Ya d.A.length ya] 25))
  replace Ww := Lib.hid (Ww.out.alloc (.cells #[.int .i64 d.K, .int .i64 d.S, .slice Yn d.N.length yn, .slice Ya d.A.length ya] 25))
  replace HW := Lib.hid (bel_alloc HW.out (.cells #[.int .i64 d.K, .int .i64 d.S, .slice Yn d.N.length yn, .slice Ya d.A.length ya] 25))
  clear dy
  go_wp2_with fail
  refine (refRight_c Hx.out.din xn xa).mono ?_
  rintro e w6 ⟨rfl, hb⟩
  replace Hd := Lib.hid (Hd.out.up hb)
  replace Hx := Lib.hid (Hx.out.up hb)
  replace Hy := Lib.hid (Hy.out.up hb)
  replace Ww := Lib.hid (Ww.out.up hb)
  replace HW := Lib.hid (bel_step HW.out hb)
  clear d0 d1 d2 d3 ltd
  clear x0 x1 x2 x3 ltx
  clear hb
  obtain ⟨d0, d1, d2, d3⟩ := Hd.out.cells
  have ltd := Hd.out.lt
  obtain ⟨x0, x1, x2, x3⟩ := Hx.out.cells
  have ltx := Hx.out.lt
  obtain ⟨y0, y1, y2, y3⟩ := Hy.out.cells
  have lty := Hy.out.lt
  rw [HXR.out]
  go_wp2_with fail
  refine (refRight_c Hy.out.din yn ya).mono ?_
  rintro e w7 ⟨rfl, hb⟩
  replace Hd := Lib.hid (Hd.out.up hb)
  replace Hx := Lib.hid (Hx.out.up hb)
  replace Hy := Lib.hid (Hy.out.up hb)
  replace Ww := Lib.hid (Ww.out.up hb)
  replace HW := Lib.hid (bel_step HW.out hb)
  clear d0 d1 d2 d3 ltd
  clear x0 x1 x2 x3 ltx
  clear y0 y1 y2 y3 lty
  clear hb
  obtain ⟨d0, d1, d2, d3⟩ := Hd.out.cells
  have ltd := Hd.out.lt
  obtain ⟨x0, x1, x2, x3⟩ := Hx.out.cells
  have ltx := Hx.out.lt
  obtain ⟨y0, y1, y2, y3⟩ := Hy.out.cells
  have lty := Hy.out.lt
  rw [HR.out]
  have hll : (((x.A.length : Nat) : Int) != (d.A.length : Nat)) = false := by rw [HXL.out]; simp
  go_wp2_with fail
  refine (like_c Hd.out.din Hy.out.din HOK.out HOK.out rfl (Nat.le_trans (Nat.mul_le_mul hz1 hz1) (by omega)) cn ca yn ya).mono ?_
  rintro e w8 ⟨r, rfl, hr, hb⟩
  replace Hd := Lib.hid (Hd.out.up hb)
  replace Hx := Lib.hid (Hx.out.up hb)
  replace Hy := Lib.hid (Hy.out.up hb)
  replace Ww := Lib.hid (Ww.out.up hb)
  replace HW := Lib.hid (bel_step HW.out hb)
  clear d0 d1 d2 d3 ltd
  clear x0 x1 x2 x3 ltx
  clear y0 y1 y2 y3 lty
  clear hb
  obtain rfl : r = true := hr.2 (likeP_self d)
  clear hr
  obtain ⟨d0, d1, d2, d3⟩ := Hd.out.cells
  have ltd := Hd.out.lt
  obtain ⟨x0, x1, x2, x3⟩ := Hx.out.cells
  have ltx := Hx.out.lt
  obtain ⟨y0, y1, y2, y3⟩ := Hy.out.cells
  have lty := Hy.out.lt
  obtain ⟨b, hb⟩ : ∃ b, b = d.tells ws := ⟨_, rfl⟩
  have HDT := Lib.hid hb.symm
  clear hb
  generalize w3.heap.size = Bx at Hx x0 x1 x2 x3 ltx ⊢
  generalize w5.heap.size = By at Hy y0 y1 y2 y3 lty ⊢
  generalize w.heap.size = Bd at Hd d0 d1 d2 d3 ltd ⊢
  have hxt := HXT.out
  rw [HS.out, HDT.out] at hxt
  have c30x := fun (W : World) (h : DIn W x Xn Xa) (h' : WIn W ws A) => refTells_c h h' xn xa cw
  rw [hxt] at c30x
  simp only [Bool.false_and] at c30x
  have c30d := fun (W : World) (h : DIn W d An Aa) (h' : WIn W ws A) => refTells_c h h' cn ca cw
  rw [HDT.out] at c30d
  have c35 := fun (W : World) (h' : WIn W ws A) => symbols_c d.K h' cw
  rw [HS.out] at c35
  have C30x := Lib.hid c30x; have C30d := Lib.hid c30d; have C35 := Lib.hid c35
  clear c30x c30d c35 hxt
  go_wp2_with fail
  replace Hd := Lib.hid Hd.out.drew
  replace Hx := Lib.hid Hx.out.drew
  replace Hy := Lib.hid Hy.out.drew
  replace Ww := Lib.hid Ww.out.drew
  replace HW := Lib.hid HW.out.drew
  first | (go_region_with
    (first
        | (go_at_call_of 30 Xn
           refine (C30x.out _ Hx.out.din Ww.out).mono ?_
           rintro e wr0 ⟨rfl, hb0⟩
           have Hd_r0 := Lib.hid (Hd.out.up hb0)
           have Hx_r0 := Lib.hid (Hx.out.up hb0)
           have Hy_r0 := Lib.hid (Hy.out.up hb0)
           have Ww_r0 := Lib.hid (Ww.out.up hb0)
           have HW_r0 := Lib.hid (bel_step HW.out hb0)
           obtain ⟨d0_r0, d1_r0, d2_r0, d3_r0⟩ := Hd_r0.out.cells
           obtain ⟨x0_r0, x1_r0, x2_r0, x3_r0⟩ := Hx_r0.out.cells
           have ltd_r0 := Hd_r0.out.lt
           have ltx_r0 := Hx_r0.out.lt
           clear hb0)
        | (go_at_call 35
           refine (C35.out _ Ww_r0.out).mono ?_
           rintro e wr1 ⟨rfl, hb1⟩
           have Hd_r1 := Lib.hid (Hd_r0.out.up hb1)
           have Hx_r1 := Lib.hid (Hx_r0.out.up hb1)
           have Hy_r1 := Lib.hid (Hy_r0.out.up hb1)
           have Ww_r1 := Lib.hid (Ww_r0.out.up hb1)
           have HW_r1 := Lib.hid (bel_step HW_r0.out hb1)
           obtain ⟨d0_r1, d1_r1, d2_r1, d3_r1⟩ := Hd_r1.out.cells
           obtain ⟨x0_r1, x1_r1, x2_r1, x3_r1⟩ := Hx_r1.out.cells
           have ltd_r1 := Hd_r1.out.lt
           have ltx_r1 := Hx_r1.out.lt
           clear hb1))) | fail
  all_goals
    go_wp2_with fail
    go_ret
    exact ⟨ret_bool (by first | rfl | simp), HW_r1.out⟩
set_option maxHeartbeats 2000000 in
set_option maxRecDepth 100000 in
theorem dfaNot_yes_true (d : D) (An Aa A : Option Addr) (cn ca cw : Nat) (ws : List Int) (w : World) (hd : DIn w d An Aa) (hw : WIn w ws A) (hg : d.great = false) (hl : ¬ 200 < ws.length) (hr : d.right = true) (hs : symsB d.K ws = true) :
    Calls Try.prog 5 #[dfaV d.K d.S An d.N.length cn Aa d.A.length ca, .slice A ws.length cw] w (Ret (.bool true) w) := by
  have HG := Lib.hid hg; clear hg
  have hok := D.right_true.1 hr
  have hnot := fun (W : World) (h : DIn W d An Aa) => not_c h cn ca
  have e1 : notE d = notD d := if_pos hok
  have e2 : okE d.right = 0 := by rw [hr]; rfl
  rw [e1, e2] at hnot
  have hxo := notD_ok hok
  have hxl : (notD d).A.length = d.A.length := by simp [notD]
  have hxn : (notD d).N.length = d.N.length := rfl
  have hxt := notD_tells hok ws
  have hxk : (notD d).K = d.K := rfl
  have hnot2 := fun (W : World) (An Aa : Option Addr) (cn ca : Nat) (h : DIn W (notD d) An Aa) => not_c h cn ca
  have e3 : notE (notD d) = d := (if_pos hxo).trans (notD_twice d)
  have e4 : okE (notD d).right = 0 := by rw [D.right_true.2 hxo]; rfl
  rw [e3, e4] at hnot2
  obtain ⟨x, hx⟩ : ∃ x, x = notD d := ⟨_, rfl⟩
  rw [← hx] at hnot hxo hxl hxn hxt hxk hnot2
  have hxr := D.right_true.2 hxo
  have HN := Lib.hid hnot; have HR := Lib.hid hr; have HXO := Lib.hid hxo; have HXL := Lib.hid hxl; have HXN := Lib.hid hxn; have HXT := Lib.hid hxt; have HXK := Lib.hid hxk; have HN2 := Lib.hid hnot2; have HXR := Lib.hid hxr; have HOK := Lib.hid hok
  have hsz := D.great_no HG.out
  obtain ⟨hz1, hz2, _⟩ := hsz
  have HS := Lib.hid hs; clear hs
  clear hnot e1 e2 e3 e4 hr hxo hxl hxn hxt hxk hnot2 hxr hok hx
  have Hd := Lib.hid (HasD.new hd cn ca)
  have Ww := Lib.hid (hw.alloc (.cells #[.int .i64 d.K, .int .i64 d.S, .slice An d.N.length cn, .slice Aa d.A.length ca] 25))
  have HW := Lib.hid (bel_new w (.cells #[.int .i64 d.K, .int .i64 d.S, .slice An d.N.length cn, .slice Aa d.A.length ca] 25))
  clear hd hw
  go_enter Try.func5, Try.ntmps5
  go_wp2_with fail
  refine (alive_c _).mono ?_
  rintro e w1 ⟨rfl, hb⟩
  replace Hd := Lib.hid (Hd.out.up hb)
  replace Ww := Lib.hid (Ww.out.up hb)
  replace HW := Lib.hid (bel_step HW.out hb)
  clear hb
  obtain ⟨d0, d1, d2, d3⟩ := Hd.out.cells
  have ltd := Hd.out.lt
  go_wp2_with fail
  refine (great_c d An Aa cn ca _).mono ?_
  rintro e w2 ⟨rfl, hb⟩
  replace Hd := Lib.hid (Hd.out.up hb)
  replace Ww := Lib.hid (Ww.out.up hb)
  replace HW := Lib.hid (bel_step HW.out hb)
  clear d0 d1 d2 d3 ltd
  clear hb
  obtain ⟨d0, d1, d2, d3⟩ := Hd.out.cells
  have ltd := Hd.out.lt
  rw [HG.out]
  go_wp2_with fail
  refine (HN.out _ Hd.out.din).mono ?_
  rintro e w3 ⟨v, rfl, hx, hb⟩
  replace Hd := Lib.hid (Hd.out.up hb)
  replace Ww := Lib.hid (Ww.out.up hb)
  replace HW := Lib.hid (bel_step HW.out hb)
  clear d0 d1 d2 d3 ltd
  clear hb
  obtain ⟨Xn, xn, Xa, xa, rfl, dx⟩ := hx.din (by rw [HXL.out, HXN.out]; omega)
  clear hx
  obtain ⟨d0, d1, d2, d3⟩ := Hd.out.cells
  have ltd := Hd.out.lt
  have Hx := Lib.hid (HasD.new dx xn xa)
  replace Hd := Lib.hid (Hd.out.alloc (.cells #[.int .i64 x.K, .int .i64 x.S, .slice Xn x.N.length xn, .slice Xa x.A.length xa] 25))
  replace Ww := Lib.hid (Ww.out.alloc (.cells #[.int .i64 x.K, .int .i64 x.S, .slice Xn x.N.length xn, .slice Xa x.A.length xa] 25))
  replace HW := Lib.hid (bel_alloc HW.out (.cells #[.int .i64 x.K, .int .i64 x.S, .slice Xn x.N.length xn, .slice Xa x.A.length xa] 25))
  clear dx
  go_wp2_with fail
  refine (refRight_c Hd.out.din cn ca).mono ?_
  rintro e w4 ⟨rfl, hb⟩
  replace Hd := Lib.hid (Hd.out.up hb)
  replace Hx := Lib.hid (Hx.out.up hb)
  replace Ww := Lib.hid (Ww.out.up hb)
  replace HW := Lib.hid (bel_step HW.out hb)
  clear d0 d1 d2 d3 ltd
  clear hb
  obtain ⟨d0, d1, d2, d3⟩ := Hd.out.cells
  have ltd := Hd.out.lt
  obtain ⟨x0, x1, x2, x3⟩ := Hx.out.cells
  have ltx := Hx.out.lt
  rw [HR.out]
  go_wp2_with fail
  refine (HN2.out _ _ _ xn xa Hx.out.din).mono ?_
  rintro e w5 ⟨v, rfl, hy, hb⟩
  replace Hd := Lib.hid (Hd.out.up hb)
  replace Hx := Lib.hid (Hx.out.up hb)
  replace Ww := Lib.hid (Ww.out.up hb)
  replace HW := Lib.hid (bel_step HW.out hb)
  clear d0 d1 d2 d3 ltd
  clear x0 x1 x2 x3 ltx
  clear hb
  obtain ⟨Yn, yn, Ya, ya, rfl, dy⟩ := hy.din (by omega)
  clear hy
  obtain ⟨d0, d1, d2, d3⟩ := Hd.out.cells
  have ltd := Hd.out.lt
  obtain ⟨x0, x1, x2, x3⟩ := Hx.out.cells
  have ltx := Hx.out.lt
  have Hy := Lib.hid (HasD.new dy yn ya)
  replace Hd := Lib.hid (Hd.out.alloc (.cells #[.int .i64 d.K, .int .i64 d.S, .slice Yn d.N.length yn, .slice Ya d.A.length ya] 25))
  replace Hx := Lib.hid (Hx.out.alloc (.cells #[.int .i64 d.K, .int .i64 d.S, .slice Yn d.N.length yn, .slice Ya d.A.length ya] 25))
  replace Ww := Lib.hid (Ww.out.alloc (.cells #[.int .i64 d.K, .int .i64 d.S, .slice Yn d.N.length yn, .slice Ya d.A.length ya] 25))
  replace HW := Lib.hid (bel_alloc HW.out (.cells #[.int .i64 d.K, .int .i64 d.S, .slice Yn d.N.length yn, .slice Ya d.A.length ya] 25))
  clear dy
  go_wp2_with fail
  refine (refRight_c Hx.out.din xn xa).mono ?_
  rintro e w6 ⟨rfl, hb⟩
  replace Hd := Lib.hid (Hd.out.up hb)
  replace Hx := Lib.hid (Hx.out.up hb)
  replace Hy := Lib.hid (Hy.out.up hb)
  replace Ww := Lib.hid (Ww.out.up hb)
  replace HW := Lib.hid (bel_step HW.out hb)
  clear d0 d1 d2 d3 ltd
  clear x0 x1 x2 x3 ltx
  clear hb
  obtain ⟨d0, d1, d2, d3⟩ := Hd.out.cells
  have ltd := Hd.out.lt
  obtain ⟨x0, x1, x2, x3⟩ := Hx.out.cells
  have ltx := Hx.out.lt
  obtain ⟨y0, y1, y2, y3⟩ := Hy.out.cells
  have lty := Hy.out.lt
  rw [HXR.out]
  go_wp2_with fail
  refine (refRight_c Hy.out.din yn ya).mono ?_
  rintro e w7 ⟨rfl, hb⟩
  replace Hd := Lib.hid (Hd.out.up hb)
  replace Hx := Lib.hid (Hx.out.up hb)
  replace Hy := Lib.hid (Hy.out.up hb)
  replace Ww := Lib.hid (Ww.out.up hb)
  replace HW := Lib.hid (bel_step HW.out hb)
  clear d0 d1 d2 d3 ltd
  clear x0 x1 x2 x3 ltx
  clear y0 y1 y2 y3 lty
  clear hb
  obtain ⟨d0, d1, d2, d3⟩ := Hd.out.cells
  have ltd := Hd.out.lt
  obtain ⟨x0, x1, x2, x3⟩ := Hx.out.cells
  have ltx := Hx.out.lt
  obtain ⟨y0, y1, y2, y3⟩ := Hy.out.cells
  have lty := Hy.out.lt
  rw [HR.out]
  have hll : (((x.A.length : Nat) : Int) != (d.A.length : Nat)) = false := by rw [HXL.out]; simp
  go_wp2_with fail
  refine (like_c Hd.out.din Hy.out.din HOK.out HOK.out rfl (Nat.le_trans (Nat.mul_le_mul hz1 hz1) (by omega)) cn ca yn ya).mono ?_
  rintro e w8 ⟨r, rfl, hr, hb⟩
  replace Hd := Lib.hid (Hd.out.up hb)
  replace Hx := Lib.hid (Hx.out.up hb)
  replace Hy := Lib.hid (Hy.out.up hb)
  replace Ww := Lib.hid (Ww.out.up hb)
  replace HW := Lib.hid (bel_step HW.out hb)
  clear d0 d1 d2 d3 ltd
  clear x0 x1 x2 x3 ltx
  clear y0 y1 y2 y3 lty
  clear hb
  obtain rfl : r = true := hr.2 (likeP_self d)
  clear hr
  obtain ⟨d0, d1, d2, d3⟩ := Hd.out.cells
  have ltd := Hd.out.lt
  obtain ⟨x0, x1, x2, x3⟩ := Hx.out.cells
  have ltx := Hx.out.lt
  obtain ⟨y0, y1, y2, y3⟩ := Hy.out.cells
  have lty := Hy.out.lt
  obtain ⟨b, hb⟩ : ∃ b, b = d.tells ws := ⟨_, rfl⟩
  have HDT := Lib.hid hb.symm
  clear hb
  generalize w3.heap.size = Bx at Hx x0 x1 x2 x3 ltx ⊢
  generalize w5.heap.size = By at Hy y0 y1 y2 y3 lty ⊢
  generalize w.heap.size = Bd at Hd d0 d1 d2 d3 ltd ⊢
  have hxt := HXT.out
  rw [HS.out, HDT.out] at hxt
  have c30x := fun (W : World) (h : DIn W x Xn Xa) (h' : WIn W ws A) => refTells_c h h' xn xa cw
  rw [hxt] at c30x
  simp only [Bool.true_and] at c30x
  have c30d := fun (W : World) (h : DIn W d An Aa) (h' : WIn W ws A) => refTells_c h h' cn ca cw
  rw [HDT.out] at c30d
  have c35 := fun (W : World) (h' : WIn W ws A) => symbols_c d.K h' cw
  rw [HS.out] at c35
  have C30x := Lib.hid c30x; have C30d := Lib.hid c30d; have C35 := Lib.hid c35
  clear c30x c30d c35 hxt
  go_wp2_with fail
  replace Hd := Lib.hid Hd.out.drew
  replace Hx := Lib.hid Hx.out.drew
  replace Hy := Lib.hid Hy.out.drew
  replace Ww := Lib.hid Ww.out.drew
  replace HW := Lib.hid HW.out.drew
  go_region_held3 (fun w' => w'.cell? ⟨Bd, 0, none⟩ = some (.int .i64 d.K) ∧ w'.cell? ⟨Bd, 1, none⟩ = some (.int .i64 d.S) ∧ w'.cell? ⟨Bd, 2, none⟩ = some (.slice An d.N.length cn) ∧ w'.cell? ⟨Bd, 3, none⟩ = some (.slice Aa d.A.length ca) ∧ w'.cell? ⟨Bx, 0, none⟩ = some (.int .i64 x.K) ∧ w'.cell? ⟨Bx, 1, none⟩ = some (.int .i64 x.S) ∧ w'.cell? ⟨Bx, 2, none⟩ = some (.slice Xn x.N.length xn) ∧ w'.cell? ⟨Bx, 3, none⟩ = some (.slice Xa x.A.length xa))
    (go_keep)
    (first
        | (go_at_call_of 30 Xn
           refine (C30x.out _ Hx.out.din Ww.out).mono ?_
           rintro e wr0 ⟨rfl, hb0⟩
           have Hd_r0 := Lib.hid (Hd.out.up hb0)
           have Hx_r0 := Lib.hid (Hx.out.up hb0)
           have Hy_r0 := Lib.hid (Hy.out.up hb0)
           have Ww_r0 := Lib.hid (Ww.out.up hb0)
           have HW_r0 := Lib.hid (bel_step HW.out hb0)
           obtain ⟨d0_r0, d1_r0, d2_r0, d3_r0⟩ := Hd_r0.out.cells
           obtain ⟨x0_r0, x1_r0, x2_r0, x3_r0⟩ := Hx_r0.out.cells
           have ltd_r0 := Hd_r0.out.lt
           have ltx_r0 := Hx_r0.out.lt
           clear hb0)
        | (go_at_call 35
           refine (C35.out _ Ww_r0.out).mono ?_
           rintro e wr1 ⟨rfl, hb1⟩
           have Hd_r1 := Lib.hid (Hd_r0.out.up hb1)
           have Hx_r1 := Lib.hid (Hx_r0.out.up hb1)
           have Hy_r1 := Lib.hid (Hy_r0.out.up hb1)
           have Ww_r1 := Lib.hid (Ww_r0.out.up hb1)
           have HW_r1 := Lib.hid (bel_step HW_r0.out hb1)
           obtain ⟨d0_r1, d1_r1, d2_r1, d3_r1⟩ := Hd_r1.out.cells
           obtain ⟨x0_r1, x1_r1, x2_r1, x3_r1⟩ := Hx_r1.out.cells
           have ltd_r1 := Hd_r1.out.lt
           have ltx_r1 := Hx_r1.out.lt
           clear hb1)
        | (go_at_call_of 30 An
           refine (C30d.out _ Hd_r1.out.din Ww_r1.out).mono ?_
           rintro e wr2 ⟨rfl, hb2⟩
           have Hd_r2 := Lib.hid (Hd_r1.out.up hb2)
           have Hx_r2 := Lib.hid (Hx_r1.out.up hb2)
           have Hy_r2 := Lib.hid (Hy_r1.out.up hb2)
           have Ww_r2 := Lib.hid (Ww_r1.out.up hb2)
           have HW_r2 := Lib.hid (bel_step HW_r1.out hb2)
           obtain ⟨d0_r2, d1_r2, d2_r2, d3_r2⟩ := Hd_r2.out.cells
           obtain ⟨x0_r2, x1_r2, x2_r2, x3_r2⟩ := Hx_r2.out.cells
           have ltd_r2 := Hd_r2.out.lt
           have ltx_r2 := Hx_r2.out.lt
           clear hb2))
  all_goals
    go_wp2_with fail
    go_ret
    exact ⟨ret_bool (by first | rfl | simp), HW_r2.out⟩
theorem dfaNot_law (d : D) (An Aa A : Option Addr) (cn ca cw : Nat) (ws : List Int) (w : World) (hd : DIn w d An Aa) (hw : WIn w ws A) :
    Calls Try.prog 5 #[dfaV d.K d.S An d.N.length cn Aa d.A.length ca, .slice A ws.length cw] w (Ret (.bool true) w) := by
  rcases hg : d.great with _ | _
  · by_cases hl : 200 < ws.length
    · exact dfaNot_long d An Aa A cn ca cw ws w hd hw hg hl
    · rcases hr : d.right with _ | _
      · exact dfaNot_no d An Aa A cn ca cw ws w hd hw hg hl hr
      · rcases hs : symsB d.K ws with _ | _
        · exact dfaNot_yes_false d An Aa A cn ca cw ws w hd hw hg hl hr hs
        · exact dfaNot_yes_true d An Aa A cn ca cw ws w hd hw hg hl hr hs
  · exact dfaNot_great d An Aa A cn ca cw ws w hd hw hg
end Go.Proofs.Ytmpcoclgcldclaa
