/- The walk of layer 17's shortAlive. -/
import Derived.Test.YtmpcoclgcldclaaHH
namespace Go.Proofs.Ytmpcoclgcldclaa
open Go.RowKit
attribute [local go_sem ↓] Go.wp_at_zero Go.wp_at_succ

/-- the cheapest word's search, where its answer is known -/
theorem least_is {d : D} {cs : List Int} {most : Int} {An Aa Ac : Option Addr} {w : World} {o : Option (List Int)} (hd : DIn w d An Aa) (hc : WIn w cs Ac) (hf : Fit d cs) (hsz : d.A.length ≤ 950) (ho : LeastP d cs most o) (cn ca cc : Nat) :
    Calls Try.prog 48 #[dfaV d.K d.S An d.N.length cn Aa d.A.length ca, .slice Ac cs.length cc, .int .i64 most] w fun e w' => ∃ A c, e = .returned (.tuple #[.slice A (o.getD []).length c, .bool o.isSome, .int .i64 0]) ∧ (∀ W, o = some W → W.length < d.A.length) ∧ Rd w' w'.heap.size A ((o.getD []).map (Value.int .i64)) ∧ Below w.heap.size w w' :=
  (least_yes d cs most An Aa Ac cn ca cc w hd hc hf hsz).mono fun e w' ⟨o', A, c, h1, h2, _, h3, h4, h5⟩ => by
    obtain rfl := h2.uniq ho
    exact ⟨A, c, h1, h3, h4, h5⟩
theorem WIn.lit (w : World) (cs : List Int) (n : Nat) (hn : n = w.heap.size) (hl : cs.length ≤ 9223372036854775807) : WIn (w.alloc (.cells (cs.map (Value.int .i64)).toArray 3)) cs (some ⟨n, 0, none⟩) := ⟨hl, rd_lit_at w cs n hn⟩
theorem alive_told {u : List Int} (h : Told (chainD 2 [1] true) (chainD 2 [1] true).S u) : ∃ v, u = 1 :: v ∧ symsB 2 v = true := by
  have hok : (chainD 2 [1] true).Ok := chainD_ok (by omega) (by omega) (by simp)
  have h1 := (told_tells hok).1 h
  rw [chainD_tells (by omega) (by omega) (by simp) (by decide)] at h1
  simp only [Bool.and_eq_true] at h1
  obtain ⟨h2, h3, _⟩ := h1
  have h4 := of_decide_eq_true h3
  cases u with
  | nil => simp at h4
  | cons x v =>
    have : x = 1 := by simpa using h4
    subst this
    exact ⟨v, rfl, symsB_iff.2 fun y hy => symsB_iff.1 h2 y (by simp [hy])⟩
theorem alive_fit : Fit (chainD 2 [1] true) [1, 5] := ⟨chainD_ok (by omega) (by omega) (by simp), rfl, by decide⟩
theorem alive_five : LeastP (chainD 2 [1] true) [1, 5] 5 (some [1]) := by
  refine ⟨⟨⟨by decide, by decide⟩, fun u hu => ?_, fun u hu e => ?_⟩, by decide⟩
  · obtain ⟨v, rfl, hv⟩ := alive_told hu
    have := alive_fit.len_le v hv
    have h5 : costW [1, 5] [1] = 5 := by decide
    have h6 : cst [1, 5] 1 = 5 := by decide
    rw [h5]
    simp only [costW, h6]
    omega
  · obtain ⟨v, rfl, hv⟩ := alive_told hu
    have h1 := alive_fit.len_le v hv
    have h5 : costW [1, 5] [1] = 5 := by decide
    have h6 : cst [1, 5] 1 = 5 := by decide
    rw [h5] at e
    simp only [costW, h6] at e
    left
    rw [List.eq_nil_of_length_eq_zero (show v.length = 0 by omega)]
theorem alive_four : LeastP (chainD 2 [1] true) [1, 5] 4 none := fun u hu => by
  obtain ⟨v, rfl, hv⟩ := alive_told hu
  have h1 := alive_fit.len_le v hv
  have h6 : cst [1, 5] 1 = 5 := by decide
  simp only [costW, h6]
  omega
set_option maxHeartbeats 4000000 in
set_option maxRecDepth 100000 in
theorem shortAlive_any (w : World) : Calls Try.prog 46 #[] w (Ret (.bool true) w) := by
  have cB := begins_any 2 [1] (some ⟨w.heap.size, 0, none⟩) 1 (w.alloc (.cells #[.int .i64 1] 3)) (by simp) (rd_lit w [1])
  rw [show chE 2 [1] = 0 by decide, show chD 2 [1] true = chainD 2 [1] true from rfl] at cB
  obtain ⟨d, hd⟩ : ∃ d, d = chainD 2 [1] true := ⟨_, rfl⟩
  have hf := alive_fit
  have h5 := alive_five
  have h4 := alive_four
  rw [← hd] at cB hf h5 h4
  have hN : d.N.length ≤ 1000 := by rw [hd]; decide
  have hA : d.A.length ≤ 900 := by rw [hd]; decide
  have CB := Lib.hid cB; have HF := Lib.hid hf; have H5 := Lib.hid h5; have H4 := Lib.hid h4
  clear cB hf h5 h4 hd
  go_enter Try.func46, Try.ntmps46
  go_wp2_with fail
  refine CB.out.mono ?_
  rintro e w1 ⟨v, rfl, hd, hb1⟩
  obtain ⟨AN, cN, AA, cA, rfl, hdi⟩ := hd.din ⟨by omega, by omega⟩
  have HW := Lib.hid (bel_step (bel_new w (.cells #[.int .i64 1] 3)) hb1)
  have HDI := Lib.hid hdi
  clear hd hb1 hdi
  go_wp2_with fail
  have Hbox := Lib.hid ((HasD.new HDI.out cN cA).alloc (.cells #[.int .i64 1, .int .i64 5] 3))
  refine (least_is (o := some [1]) Hbox.out.din (WIn.lit _ [1, 5] _ (by simp) (by simp)) HF.out (by omega) H5.out cN cA 2).mono ?_
  rintro e w2 ⟨A2, c2, rfl, _, hr2, hb2⟩
  replace Hbox := Lib.hid (Hbox.out.up hb2)
  replace HW := Lib.hid (bel_step (bel_alloc (bel_alloc HW.out _) _) hb2)
  have HR2 := Lib.hid hr2
  obtain ⟨d0, d1, d2, d3⟩ := Hbox.out.cells
  have ltd := Hbox.out.lt
  clear hr2 hb2
  go_wp2_with fail
  refine (least_is (o := none) (Hbox.out.din.alloc _) (WIn.lit _ [1, 5] _ rfl (by simp)) HF.out (by omega) H4.out cN cA 2).mono ?_
  rintro e w3 ⟨A3, c3, rfl, _, _, hb3⟩
  have HW3 := Lib.hid (bel_step (bel_alloc HW.out _) hb3)
  have hr3 := (HR2.out.up (Nat.le_refl _) (bel_new w2 (.cells #[.int .i64 1, .int .i64 5] 3))).up (Nat.le_refl _) hb3
  obtain ⟨b, o, rfl, hbl, hbc⟩ := hr3 (by simp)
  have hc0 := hbc 0 (.int .i64 1) rfl
  rw [Nat.add_zero] at hc0
  clear hr3 hbc hb3
  go_wp2_with fail
  go_ret
  exact ⟨rfl, HW3.out⟩
end Go.Proofs.Ytmpcoclgcldclaa
