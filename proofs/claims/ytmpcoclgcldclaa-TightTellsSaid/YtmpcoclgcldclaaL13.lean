/- The walk of the law TightTells. -/
import Derived.Test.YtmpcoclgcldclaaTG
import Derived.Test.YtmpcoclgcldclaaUM
namespace Go.Proofs.Ytmpcoclgcldclaa
open Go.RowKit
attribute [local go_sem ↓] Go.wp_at_zero Go.wp_at_succ

/-- an automaton comes back -/
def RetD (x : D) (w : World) (e : Ending) (w' : World) : Prop := ∃ (Yn : Option Addr) (ym : Nat) (Ya : Option Addr) (yb : Nat), e = .returned (dfaV x.K x.S Yn x.N.length ym Ya x.A.length yb) ∧ DIn w' x Yn Ya ∧ Below w.heap.size w w'
theorem refTight_c {d x : D} {An Aa : Option Addr} {w : World} (hd : DIn w d An Aa) (hT : TightOf d x) (hok : d.Ok) (hA : d.A.length ≤ 100) (cn ca : Nat) :
    Calls Try.prog 59 #[dfaV d.K d.S An d.N.length cn Aa d.A.length ca] w (RetD x w) := by
  refine (refTight_any d An Aa cn ca w hd hok hA).mono ?_
  rintro e w' ⟨L, N, v, hin, rfl, hv, hb⟩
  have hx : x = ordD d L N := hT.uniq (hin.tight hok (LangEq.cong d) (fun _ _ _ _ h => h)) rfl (fun _ _ => rfl)
  obtain ⟨Yn, ym, Ya, yb, rfl, dy⟩ := hv.din (D.Ok.sizes (hx ▸ hT.ok))
  rw [hx]
  exact ⟨Yn, ym, Ya, yb, rfl, dy, hb⟩
theorem equal_self {x : D} {An Aa Bn Ba : Option Addr} {w : World} (h1 : DIn w x An Aa) (h2 : DIn w x Bn Ba) (cn ca bn ba : Nat) :
    Calls Try.prog 58 #[dfaV x.K x.S An x.N.length cn Aa x.A.length ca, dfaV x.K x.S Bn x.N.length bn Ba x.A.length ba] w (Ret (.bool true) w) := by
  have h := equal_any x x An Aa Bn Ba cn ca bn ba w h1 h2
  rwa [decide_eq_true rfl] at h

set_option maxHeartbeats 4000000 in
set_option maxRecDepth 100000 in
theorem tightTells_great (d : D) (An Aa : Option Addr) (cn ca : Nat) (w : World) (hd : DIn w d An Aa) (hg : d.great = true) :
    Calls Try.prog 13 #[dfaV d.K d.S An d.N.length cn Aa d.A.length ca] w (Ret (.bool true) w) := by
  have HG := Lib.hid hg; clear hg
  have Hd := Lib.hid (HasD.new hd cn ca)
  have HW := Lib.hid (bel_new w (.cells #[.int .i64 d.K, .int .i64 d.S, .slice An d.N.length cn, .slice Aa d.A.length ca] 25))
  clear hd
  go_enter Try.func13, Try.ntmps13
  go_wp2_with fail
  refine (tightAlive_any _).mono ?_
  rintro e w1 ⟨rfl, hb⟩
  replace Hd := Lib.hid (Hd.out.up hb)
  replace HW := Lib.hid (bel_step HW.out hb)
  clear hb
  obtain ⟨d0, d1, d2, d3⟩ := Hd.out.cells
  have ltd := Hd.out.lt
  go_wp2_with fail
  refine (great16_c d An Aa cn ca _).mono ?_
  rintro e w2 ⟨rfl, hb⟩
  replace Hd := Lib.hid (Hd.out.up hb)
  replace HW := Lib.hid (bel_step HW.out hb)
  clear d0 d1 d2 d3 ltd
  clear hb
  obtain ⟨d0, d1, d2, d3⟩ := Hd.out.cells
  have ltd := Hd.out.lt
  rw [HG.out]
  go_wp2_with fail
  go_ret
  exact ⟨rfl, HW.out⟩
set_option maxHeartbeats 4000000 in
set_option maxRecDepth 100000 in
theorem tightTells_no (d : D) (An Aa : Option Addr) (cn ca : Nat) (w : World) (hd : DIn w d An Aa) (hg : d.great = false) (hr : d.right = false) :
    Calls Try.prog 13 #[dfaV d.K d.S An d.N.length cn Aa d.A.length ca] w (Ret (.bool true) w) := by
  have HG := Lib.hid hg; clear hg
  have HR := Lib.hid hr; clear hr
  have Hd := Lib.hid (HasD.new hd cn ca)
  have HW := Lib.hid (bel_new w (.cells #[.int .i64 d.K, .int .i64 d.S, .slice An d.N.length cn, .slice Aa d.A.length ca] 25))
  clear hd
  go_enter Try.func13, Try.ntmps13
  go_wp2_with fail
  refine (tightAlive_any _).mono ?_
  rintro e w1 ⟨rfl, hb⟩
  replace Hd := Lib.hid (Hd.out.up hb)
  replace HW := Lib.hid (bel_step HW.out hb)
  clear hb
  obtain ⟨d0, d1, d2, d3⟩ := Hd.out.cells
  have ltd := Hd.out.lt
  go_wp2_with fail
  refine (great16_c d An Aa cn ca _).mono ?_
  rintro e w2 ⟨rfl, hb⟩
  replace Hd := Lib.hid (Hd.out.up hb)
  replace HW := Lib.hid (bel_step HW.out hb)
  clear d0 d1 d2 d3 ltd
  clear hb
  obtain ⟨d0, d1, d2, d3⟩ := Hd.out.cells
  have ltd := Hd.out.lt
  rw [HG.out]
  go_wp2_with fail
  refine (tight_no d An Aa cn ca _ Hd.out.din HR.out).mono ?_
  rintro e w3 ⟨v, rfl, hx, hb⟩
  replace Hd := Lib.hid (Hd.out.up hb)
  replace HW := Lib.hid (bel_step HW.out hb)
  clear d0 d1 d2 d3 ltd
  clear hb
  obtain ⟨Xn, xm, Xa, xb, rfl, dx⟩ : ∃ Xn xm Xa xb, v = dfaV 0 0 Xn 0 xm Xa 0 xb ∧ DIn w3 zeroD Xn Xa := hx.din (by decide)
  clear hx
  obtain ⟨d0, d1, d2, d3⟩ := Hd.out.cells
  have ltd := Hd.out.lt
  have Hx := Lib.hid (HasD.new dx xm xb)
  replace Hd := Lib.hid (Hd.out.alloc (.cells #[.int .i64 zeroD.K, .int .i64 zeroD.S, .slice Xn zeroD.N.length xm, .slice Xa zeroD.A.length xb] 25))
  replace HW := Lib.hid (bel_alloc HW.out (.cells #[.int .i64 zeroD.K, .int .i64 zeroD.S, .slice Xn zeroD.N.length xm, .slice Xa zeroD.A.length xb] 25))
  clear dx
  have zk : zeroD.K = 0 := rfl
  have zs : zeroD.S = 0 := rfl
  have zn : zeroD.N.length = 0 := rfl
  have za : zeroD.A.length = 0 := rfl
  go_wp2_with fail
  refine (refRight_c Hd.out.din cn ca).mono ?_
  rintro e w4 ⟨rfl, hb⟩
  replace Hd := Lib.hid (Hd.out.up hb)
  replace Hx := Lib.hid (Hx.out.up hb)
  replace HW := Lib.hid (bel_step HW.out hb)
  clear d0 d1 d2 d3 ltd
  clear hb
  obtain ⟨d0, d1, d2, d3⟩ := Hd.out.cells
  have ltd := Hd.out.lt
  obtain ⟨x0, x1, x2, x3⟩ := Hx.out.cells
  have ltx := Hx.out.lt
  rw [zk] at x0
  rw [zs] at x1
  rw [zn] at x2
  rw [za] at x3
  rw [HR.out]
  go_wp2_with fail
  go_ret
  exact ⟨rfl, HW.out⟩
set_option maxHeartbeats 4000000 in
set_option maxRecDepth 100000 in
theorem tightTells_yes (d : D) (An Aa : Option Addr) (cn ca : Nat) (w : World) (hd : DIn w d An Aa) (hg : d.great = false) (hr : d.right = true) :
    Calls Try.prog 13 #[dfaV d.K d.S An d.N.length cn Aa d.A.length ca] w (Ret (.bool true) w) := by
  have HG := Lib.hid hg
  have hok := D.right_true.1 hr
  have C57 := Lib.hid (fun (W : World) (h : DIn W d An Aa) => tight_yes d An Aa cn ca W h hok)
  have C59 := Lib.hid (fun (W : World) (x : D) (h : DIn W d An Aa) (hT : TightOf d x) => refTight_c h hT hok (by have := (D.great_no hg).1; omega) cn ca)
  clear hok hg
  have HR := Lib.hid hr; clear hr
  have Hd := Lib.hid (HasD.new hd cn ca)
  have HW := Lib.hid (bel_new w (.cells #[.int .i64 d.K, .int .i64 d.S, .slice An d.N.length cn, .slice Aa d.A.length ca] 25))
  clear hd
  go_enter Try.func13, Try.ntmps13
  go_wp2_with fail
  refine (tightAlive_any _).mono ?_
  rintro e w1 ⟨rfl, hb⟩
  replace Hd := Lib.hid (Hd.out.up hb)
  replace HW := Lib.hid (bel_step HW.out hb)
  clear hb
  obtain ⟨d0, d1, d2, d3⟩ := Hd.out.cells
  have ltd := Hd.out.lt
  go_wp2_with fail
  refine (great16_c d An Aa cn ca _).mono ?_
  rintro e w2 ⟨rfl, hb⟩
  replace Hd := Lib.hid (Hd.out.up hb)
  replace HW := Lib.hid (bel_step HW.out hb)
  clear d0 d1 d2 d3 ltd
  clear hb
  obtain ⟨d0, d1, d2, d3⟩ := Hd.out.cells
  have ltd := Hd.out.lt
  rw [HG.out]
  go_wp2_with fail
  refine (C57.out _ Hd.out.din).mono ?_
  rintro e w3 ⟨x, hT, v, rfl, hx, hb⟩
  replace Hd := Lib.hid (Hd.out.up hb)
  replace HW := Lib.hid (bel_step HW.out hb)
  clear d0 d1 d2 d3 ltd
  clear hb
  obtain ⟨Xn, xm, Xa, xb, rfl, dx⟩ := hx.din (D.Ok.sizes hT.ok)
  have HT := Lib.hid hT
  clear hx hT
  obtain ⟨d0, d1, d2, d3⟩ := Hd.out.cells
  have ltd := Hd.out.lt
  have Hx := Lib.hid (HasD.new dx xm xb)
  replace Hd := Lib.hid (Hd.out.alloc (.cells #[.int .i64 x.K, .int .i64 x.S, .slice Xn x.N.length xm, .slice Xa x.A.length xb] 25))
  replace HW := Lib.hid (bel_alloc HW.out (.cells #[.int .i64 x.K, .int .i64 x.S, .slice Xn x.N.length xm, .slice Xa x.A.length xb] 25))
  clear dx
  go_wp2_with fail
  refine (refRight_c Hd.out.din cn ca).mono ?_
  rintro e w4 ⟨rfl, hb⟩
  replace Hd := Lib.hid (Hd.out.up hb)
  replace Hx := Lib.hid (Hx.out.up hb)
  replace HW := Lib.hid (bel_step HW.out hb)
  clear d0 d1 d2 d3 ltd
  clear hb
  obtain ⟨d0, d1, d2, d3⟩ := Hd.out.cells
  have ltd := Hd.out.lt
  obtain ⟨x0, x1, x2, x3⟩ := Hx.out.cells
  have ltx := Hx.out.lt
  rw [HR.out]
  generalize w3.heap.size = Bx at Hx x0 x1 x2 x3 ltx ⊢
  generalize w.heap.size = Bd at Hd d0 d1 d2 d3 ltd ⊢
  go_wp2_with fail
  replace Hd := Lib.hid Hd.out.drew
  replace Hx := Lib.hid Hx.out.drew
  replace HW := Lib.hid HW.out.drew
  go_region_held3 (fun w' => w'.cell? ⟨Bd, 0, none⟩ = some (.int .i64 d.K) ∧ w'.cell? ⟨Bd, 1, none⟩ = some (.int .i64 d.S) ∧ w'.cell? ⟨Bd, 2, none⟩ = some (.slice An d.N.length cn) ∧ w'.cell? ⟨Bd, 3, none⟩ = some (.slice Aa d.A.length ca) ∧ w'.cell? ⟨Bx, 0, none⟩ = some (.int .i64 x.K) ∧ w'.cell? ⟨Bx, 1, none⟩ = some (.int .i64 x.S) ∧ w'.cell? ⟨Bx, 2, none⟩ = some (.slice Xn x.N.length xm) ∧ w'.cell? ⟨Bx, 3, none⟩ = some (.slice Xa x.A.length xb))
    (go_keep)
    (first
        | (go_at_call 59
           refine (C59.out _ x Hd.out.din HT.out).mono ?_
           rintro e wr0 ⟨Yn, ym, Ya, yb, rfl, dy, hb0⟩
           have Hd_r0 := Lib.hid (Hd.out.up hb0)
           have Hx_r0 := Lib.hid (Hx.out.up hb0)
           have HW_r0 := Lib.hid (bel_step HW.out hb0)
           obtain ⟨d0_r0, d1_r0, d2_r0, d3_r0⟩ := Hd_r0.out.cells
           obtain ⟨x0_r0, x1_r0, x2_r0, x3_r0⟩ := Hx_r0.out.cells
           have ltd_r0 := Hd_r0.out.lt
           have ltx_r0 := Hx_r0.out.lt
           clear hb0)
        | (go_at_call 58
           refine (equal_self Hx_r0.out.din dy xm xb ym yb).mono ?_
           rintro e wr1 ⟨rfl, hb1⟩
           have Hd_r1 := Lib.hid (Hd_r0.out.up hb1)
           have Hx_r1 := Lib.hid (Hx_r0.out.up hb1)
           have HW_r1 := Lib.hid (bel_step HW_r0.out hb1)
           obtain ⟨d0_r1, d1_r1, d2_r1, d3_r1⟩ := Hd_r1.out.cells
           obtain ⟨x0_r1, x1_r1, x2_r1, x3_r1⟩ := Hx_r1.out.cells
           have ltd_r1 := Hd_r1.out.lt
           have ltx_r1 := Hx_r1.out.lt
           clear hb1))
  all_goals
    go_wp2_with fail
    go_ret
    exact ⟨ret_bool (by first | rfl | simp), HW_r1.out⟩
theorem tightTells_law (d : D) (An Aa : Option Addr) (cn ca : Nat) (w : World) (hd : DIn w d An Aa) :
    Calls Try.prog 13 #[dfaV d.K d.S An d.N.length cn Aa d.A.length ca] w (Ret (.bool true) w) := by
  rcases hg : d.great with _ | _
  · rcases hr : d.right with _ | _
    · exact tightTells_no d An Aa cn ca w hd hg hr
    · exact tightTells_yes d An Aa cn ca w hd hg hr
  · exact tightTells_great d An Aa cn ca w hd hg
end Go.Proofs.Ytmpcoclgcldclaa
