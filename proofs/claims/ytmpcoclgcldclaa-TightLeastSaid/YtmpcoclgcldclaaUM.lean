/- The walks of layer 16's helpers: great, tightAlive. -/
import Derived.Test.YtmpcoclgcldclaaUL
import Derived.Test.YtmpcoclgcldclaaUB
namespace Go.Proofs.Ytmpcoclgcldclaa
open Go.RowKit
attribute [local go_sem ↓] Go.wp_at_zero Go.wp_at_succ

set_option maxHeartbeats 1000000 in
set_option maxRecDepth 100000 in
theorem great16_c (d : D) (An Aa : Option Addr) (cn ca : Nat) (w : World) :
    Calls Try.prog 56 #[dfaV d.K d.S An d.N.length cn Aa d.A.length ca] w (Ret (.bool d.great) w) := by
  by_cases h1 : 12 < d.A.length
  · have h : d.great = true := decide_eq_true (.inl h1)
    rw [h]; clear h
    go_enter Try.func56, Try.ntmps56
    go_wp2
    go_ret
    exact ⟨rfl, (Below.refl _ _).alloc (Nat.le_refl _) _⟩
  by_cases h2 : 100 < d.N.length
  · have h : d.great = true := decide_eq_true (.inr (.inl h2))
    rw [h]; clear h
    go_enter Try.func56, Try.ntmps56
    go_wp2
    go_ret
    exact ⟨rfl, (Below.refl _ _).alloc (Nat.le_refl _) _⟩
  · have h : d.great = decide (9 < d.K) := by
      unfold D.great
      congr 1
      exact propext (by omega)
    rw [h]; clear h
    go_enter Try.func56, Try.ntmps56
    go_wp2
    go_ret
    exact ⟨ret_bool (by rw [decide_eq_false (show ¬ (12 : Int) < d.A.length by omega), decide_eq_false (show ¬ (100 : Int) < d.N.length by omega)]; rfl), (Below.refl _ _).alloc (Nat.le_refl _) _⟩

theorem ex_ch : chD 2 [0] true = exD := rfl
set_option maxHeartbeats 2000000 in
set_option maxRecDepth 100000 in
theorem tightAlive_any (w : World) : Calls Try.prog 55 #[] w (Ret (.bool true) w) := by
  have cB := begins_any 2 [0] (some ⟨w.heap.size, 0, none⟩) 1 (w.alloc (.cells #[.int .i64 0] 3)) (by simp) (rd_lit w [0])
  rw [show chE 2 [0] = 0 by decide, ex_ch] at cB
  have hok := exD_ok
  have htl := fun (x : D) (h : TightOf exD x) => exTight_len h
  have hcn : sat (cntN exD (3 : Int).toNat exD.S) = 4 := by
    show sat (cntN exD 3 exD.S) = 4
    rw [exCount]; decide
  have hN : exD.N.length ≤ 1000 := by decide
  have hA : exD.A.length ≤ 1000 := by decide
  obtain ⟨d, hd⟩ : ∃ d, d = exD := ⟨_, rfl⟩
  rw [← hd] at cB hok htl hcn hN hA
  have c60 := fun (W : World) (AN AA : Option Addr) (cN cA : Nat) (h : DIn W d AN AA) => count_yes d 3 AN AA cN cA W h hok (by omega) (by omega)
  rw [hcn] at c60
  have CB := Lib.hid cB; have HOK := Lib.hid hok; have HTL := Lib.hid htl; have C60 := Lib.hid c60
  clear cB hok htl hcn hd c60
  go_enter Try.func55, Try.ntmps55
  go_wp2_with fail
  refine CB.out.mono ?_
  rintro e w1 ⟨v, rfl, hd, hb1⟩
  obtain ⟨AN, cN, AA, cA, rfl, hdi⟩ := hd.din ⟨by omega, by omega⟩
  have HW := Lib.hid (bel_step (bel_new w (.cells #[.int .i64 0] 3)) hb1)
  have HDI := Lib.hid hdi
  clear hd hb1 hdi
  go_wp2_with fail
  have Hbox := Lib.hid (HasD.new HDI.out cN cA)
  refine (tight_yes d AN AA cN cA _ Hbox.out.din HOK.out).mono ?_
  rintro e w2 ⟨x, hx, vx, rfl, hdx, hb2⟩
  obtain ⟨XN, xn, XA, xa, rfl, hxi⟩ := hdx.din (D.Ok.sizes hx.ok)
  have hx3 : (((x.A.length : Nat) : Int) == 3) = true := by rw [HTL.out x hx]; rfl
  replace Hbox := Lib.hid ((Hbox.out.up hb2).alloc (.cells #[.int .i64 x.K, .int .i64 x.S, .slice XN x.N.length xn, .slice XA x.A.length xa] 25))
  have Hx := Lib.hid (HasD.new hxi xn xa)
  replace HW := Lib.hid (bel_alloc (bel_step (bel_alloc HW.out _) hb2) (.cells #[.int .i64 x.K, .int .i64 x.S, .slice XN x.N.length xn, .slice XA x.A.length xa] 25))
  obtain ⟨d0, d1, d2, d3⟩ := Hbox.out.cells
  have ltd := Hbox.out.lt
  clear hx hdx hb2 hxi
  go_wp2_with fail
  refine (C60.out _ AN AA cN cA Hbox.out.din).mono ?_
  rintro e w3 ⟨rfl, hb3⟩
  replace Hx := Lib.hid (Hx.out.up hb3)
  replace HW := Lib.hid (bel_step HW.out hb3)
  obtain ⟨x0, x1, x2, x3⟩ := Hx.out.cells
  have ltx := Hx.out.lt
  clear hb3 d0 d1 d2 d3 ltd Hbox
  go_wp2_with fail
  go_ret
  exact ⟨ret_bool (by simp), HW.out⟩
end Go.Proofs.Ytmpcoclgcldclaa
