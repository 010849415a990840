/- The walk of the law ShortCosts. -/
import Derived.Test.YtmpcoclgcldclaaHJ
namespace Go.Proofs.Ytmpcoclgcldclaa
open Go.RowKit
attribute [local go_sem ↓] Go.wp_at_zero Go.wp_at_succ

set_option maxHeartbeats 2000000 in
set_option maxRecDepth 100000 in
theorem shortCosts_law (cs ws : List Int) (Ac A : Option Addr) (cc c : Nat) (w : World) (hc : WIn w cs Ac) (hw : WIn w ws A) : Calls Try.prog 11 #[.slice Ac cs.length cc, .slice A ws.length c] w (Ret (.bool true) w) := by
  have HLc := hc.l
  have HLw := hw.l
  by_cases h1 : 600 < cs.length
  · go_enter Try.func11, Try.ntmps11
    go_wp2_with fail
    refine (shortAlive_any w).mono ?_
    rintro e w1 ⟨rfl, hb1⟩
    go_wp2_with fail
    go_ret
    exact ⟨rfl, hb1⟩
  by_cases h2 : 600 < ws.length
  · go_enter Try.func11, Try.ntmps11
    go_wp2_with fail
    refine (shortAlive_any w).mono ?_
    rintro e w1 ⟨rfl, hb1⟩
    go_wp2_with fail
    go_ret
    exact ⟨rfl, hb1⟩
  have c53 := fun (W : World) (hb : Below w.heap.size w W) => cost_any A Ac c cc cs ws W (hc.up hb) (hw.up hb) (by omega)
  have c52 := fun (W : World) (hb : Below w.heap.size w W) => refCost_any A Ac c cc cs ws W (hc.up hb) (hw.up hb) (by omega)
  obtain ⟨x, hx⟩ : ∃ x, x = costB cs ws := ⟨_, rfl⟩
  rw [← hx] at c53 c52
  have C53 := Lib.hid c53; have C52 := Lib.hid c52
  clear hc hw c53 c52 hx
  go_enter Try.func11, Try.ntmps11
  go_wp2_with fail
  refine (shortAlive_any w).mono ?_
  rintro e w1 ⟨rfl, hb1⟩
  have HB := Lib.hid hb1
  clear hb1
  go_wp2_with fail
  refine (C53.out _ HB.out).mono ?_
  rintro e w' ⟨rfl, rfl⟩
  go_wp2_with fail
  refine (C52.out _ HB.out).mono ?_
  rintro e w2 ⟨rfl, hb2⟩
  go_wp2_with fail
  go_ret
  exact ⟨ret_bool (by simp), bel_step HB.out hb2⟩
end Go.Proofs.Ytmpcoclgcldclaa
