/- The walks of layer 17's small functions: costs, the smaller word, the same word. -/
import Derived.Test.YtmpcoclgcldclaaHF
namespace Go.Proofs.Ytmpcoclgcldclaa
open Go.RowKit
attribute [local go_sem ↓] Go.wp_at_zero Go.wp_at_succ

def great17 (d : D) (cs : List Int) : Bool := decide (10 < d.A.length ∨ 60 < d.N.length ∨ 9 < cs.length ∨ 9 < d.K)
theorem great17_no {d : D} {cs : List Int} (h : great17 d cs = false) : d.A.length ≤ 10 ∧ d.N.length ≤ 60 ∧ cs.length ≤ 9 ∧ d.K ≤ 9 := by
  have := of_decide_eq_false h
  omega
set_option maxHeartbeats 1000000 in
set_option maxRecDepth 100000 in
theorem great17_any (d : D) (cs : List Int) (An Aa Ac : Option Addr) (cn ca cc : Nat) (w : World) :
    Calls Try.prog 47 #[dfaV d.K d.S An d.N.length cn Aa d.A.length ca, .slice Ac cs.length cc] w (Ret (.bool (great17 d cs)) w) := by
  by_cases h1 : 10 < d.A.length
  · have h : great17 d cs = true := decide_eq_true (.inl h1)
    rw [h]; clear h
    go_enter Try.func47, Try.ntmps47
    go_wp2
    go_ret
    exact ⟨rfl, bel_new _ _⟩
  by_cases h2 : 60 < d.N.length
  · have h : great17 d cs = true := decide_eq_true (.inr (.inl h2))
    rw [h]; clear h
    go_enter Try.func47, Try.ntmps47
    go_wp2
    go_ret
    exact ⟨rfl, bel_new _ _⟩
  by_cases h3 : 9 < cs.length
  · have h : great17 d cs = true := decide_eq_true (.inr (.inr (.inl h3)))
    rw [h]; clear h
    go_enter Try.func47, Try.ntmps47
    go_wp2
    go_ret
    exact ⟨rfl, bel_new _ _⟩
  by_cases h4 : 9 < d.K
  · have h : great17 d cs = true := decide_eq_true (.inr (.inr (.inr h4)))
    rw [h]; clear h
    go_enter Try.func47, Try.ntmps47
    go_wp2
    go_ret
    exact ⟨by simp_all, bel_new _ _⟩
  · have h : great17 d cs = false := decide_eq_false (by omega)
    rw [h]; clear h
    go_enter Try.func47, Try.ntmps47
    go_wp2
    go_ret
    exact ⟨by simp_all, bel_new _ _⟩

theorem fineB_snoc {cs : List Int} {k : Nat} {x : Int} (h : fineB (cs.take k) = true) (hx : cs[k]? = some x) (ho : costOk x = true) : fineB (cs.take (k + 1)) = true := by
  unfold fineB at h ⊢
  rw [take_snoc hx, List.all_append, h]
  simp [ho]
theorem fineB_bad {cs : List Int} {k : Nat} {x : Int} (hx : cs[k]? = some x) (ho : costOk x = false) : fineB cs = false := by
  rcases hb : fineB cs with _ | _
  · rfl
  · have := List.all_eq_true.1 hb x (List.mem_of_getElem? hx)
    rw [ho] at this
    cases this
set_option maxHeartbeats 2000000 in
set_option maxRecDepth 100000 in
theorem refFine_any (A : Option Addr) (c : Nat) (cs : List Int) (w : World) (hc : WIn w cs A) : Calls Try.prog 92 #[.slice A cs.length c] w fun e w' => e = .returned (.bool (fineB cs)) ∧ w = w' := by
  have HL := hc.l
  have HC := Lib.hid hc
  clear hc
  go_enter Try.func92, Try.ntmps92
  go_wp2_with fail
  go_loop [4, 7] (fun _ i => ∃ k : Nat, k ≤ cs.length ∧ i = .int .i64 k ∧ Hid (fineB (cs.take k) = true)) (fun _ i => cs.length - (intOf i).toNat)
  case atStart => exact ⟨0, Nat.zero_le _, rfl, rfl⟩
  case round =>
    obtain ⟨k, hk, rfl, HF⟩ := hrel
    by_cases hlt : k < cs.length
    · obtain ⟨b, o, x, rfl, hb, hcx, hx⟩ := HC.out.r.int_at hlt
      have HX := Lib.hid hx
      clear hx
      by_cases h1 : x < 1
      · have HBAD : Hid (fineB cs = false) := fineB_bad HX.out (by unfold costOk; exact decide_eq_false (by omega))
        go_wp2_with fail
        go_ret
        exact ⟨by rw [HBAD.out]; rfl, rfl⟩
      · by_cases h2 : 1048576 < x
        · have HBAD : Hid (fineB cs = false) := fineB_bad HX.out (by unfold costOk; exact decide_eq_false (by omega))
          go_wp2_with fail
          go_ret
          exact ⟨by rw [HBAD.out]; rfl, rfl⟩
        · have HN : Hid (fineB (cs.take (k + 1)) = true) := fineB_snoc HF.out HX.out (by unfold costOk; exact decide_eq_true (by omega))
          go_wp2_with fail
          go_round
          case rel => exact ⟨k + 1, by omega, by go_num, HN⟩
          case measure => simp [intOf]; omega
    · have HG : Hid (fineB cs = true) := by
        have hf := HF.out
        rwa [List.take_of_length_le (by omega)] at hf
      go_wp2_with fail
      go_ret
      exact ⟨by rw [HG.out]; rfl, rfl⟩

def right17 (d : D) (cs : List Int) : Bool := d.right && (decide ((cs.length : Int) = d.K) && fineB cs)
theorem right17_fit {d : D} {cs : List Int} : right17 d cs = true ↔ Fit d cs := by
  unfold right17
  simp only [Bool.and_eq_true, decide_eq_true_eq]
  constructor
  · rintro ⟨h1, h2, h3⟩; exact ⟨D.right_true.1 h1, h2, h3⟩
  · rintro ⟨h1, h2, h3⟩; exact ⟨D.right_true.2 h1, h2, h3⟩
set_option maxHeartbeats 2000000 in
set_option maxRecDepth 100000 in
theorem right17_any (d : D) (cs : List Int) (An Aa Ac : Option Addr) (cn ca cc : Nat) (w : World) (hd : DIn w d An Aa) (hc : WIn w cs Ac) :
    Calls Try.prog 49 #[dfaV d.K d.S An d.N.length cn Aa d.A.length ca, .slice Ac cs.length cc] w (Ret (.bool (right17 d cs)) w) := by
  have c28 := fun (W : World) (hb : Below w.heap.size w W) => refRight_c (hd.up hb) cn ca
  have c92 := fun (W : World) (hb : Below w.heap.size w W) => refFine_any Ac cc cs W (hc.up hb)
  have Hbox := Lib.hid (HasD.new hd cn ca).box
  have HW := Lib.hid (bel_new w (.cells #[.int .i64 d.K, .int .i64 d.S, .slice An d.N.length cn, .slice Aa d.A.length ca] 25))
  unfold right17
  have C92 := Lib.hid c92
  clear hd hc c92
  rcases hr : d.right with _ | _
  · rw [hr] at c28
    have C28 := Lib.hid c28
    clear c28 hr
    go_enter Try.func49, Try.ntmps49
    go_wp2_with fail
    refine (C28.out _ HW.out).mono ?_
    rintro e w1 ⟨rfl, hb1⟩
    go_wp2_with fail
    go_ret
    exact ⟨rfl, bel_step HW.out hb1⟩
  · rw [hr] at c28
    have C28 := Lib.hid c28
    clear c28 hr
    by_cases hl : (cs.length : Int) = d.K
    · have hl' : ((cs.length : Int) == d.K) = true := by simpa using hl
      rw [decide_eq_true hl]
      have HL := Lib.hid hl
      obtain ⟨f, hf⟩ : ∃ f, f = fineB cs := ⟨_, rfl⟩
      rw [← hf] at C92 ⊢
      clear hl hf
      go_enter Try.func49, Try.ntmps49
      go_wp2_with fail
      refine (C28.out _ HW.out).mono ?_
      rintro e w1 ⟨rfl, hb1⟩
      have HB1 := Lib.hid (blk_below Hbox.out hb1)
      replace HW := Lib.hid (bel_step HW.out hb1)
      obtain ⟨⟨a0, a1, a2, a3⟩, _⟩ := blk4 HB1.out
      clear hb1
      go_wp2_with fail
      refine (C92.out _ HW.out).mono ?_
      rintro e w2 ⟨rfl, rfl⟩
      go_wp2_with fail
      go_ret
      exact ⟨rfl, HW.out⟩
    · have hl' : ((cs.length : Int) == d.K) = false := by simpa using hl
      rw [decide_eq_false hl]
      clear hl
      go_enter Try.func49, Try.ntmps49
      go_wp2_with fail
      refine (C28.out _ HW.out).mono ?_
      rintro e w1 ⟨rfl, hb1⟩
      have HB1 := Lib.hid (blk_below Hbox.out hb1)
      replace HW := Lib.hid (bel_step HW.out hb1)
      obtain ⟨⟨a0, a1, a2, a3⟩, _⟩ := blk4 HB1.out
      clear hb1
      go_wp2_with fail
      go_ret
      exact ⟨rfl, HW.out⟩
theorem costW_take {cs w : List Int} {k : Nat} {x : Int} (hx : w[k]? = some x) : costW cs (w.take (k + 1)) = costW cs (w.take k) + cst cs x := by rw [take_snoc hx, costW_snoc]
theorem cost_sum {cs : List Int} (hf : fineB cs = true) : ∀ (u : List Int), symsB cs.length u = true → 0 ≤ costW cs u ∧ costW cs u ≤ 1048576 * (u.length : Int)
  | [], _ => by simp [costW]
  | x :: u, hu => by
    have hu' := symsB_iff.1 hu
    have hx := hu' x (by simp)
    have ih := cost_sum hf u (symsB_iff.2 fun y hy => hu' y (by simp [hy]))
    have hlt : x.toNat < cs.length := by omega
    have hc : 1 ≤ cst cs x ∧ cst cs x ≤ 1048576 := by
      unfold cst
      rw [List.getD_eq_getElem?_getD, List.getElem?_eq_getElem hlt, Option.getD_some]
      exact of_decide_eq_true (List.all_eq_true.1 hf _ (List.getElem_mem hlt))
    simp only [costW, List.length_cons]
    omega
theorem symsB_take {k : Int} {w : List Int} {j : Nat} {x : Int} (h : symsB k (w.take j) = true) (hx : w[j]? = some x) (hr : 0 ≤ x ∧ x < k) : symsB k (w.take (j + 1)) = true := by
  rw [take_snoc hx, symsB_snoc, h]; exact decide_eq_true hr
set_option maxHeartbeats 2000000 in
set_option maxRecDepth 100000 in
theorem cost_any (A Ac : Option Addr) (c cc : Nat) (cs ws : List Int) (w : World) (hc : WIn w cs Ac) (hw : WIn w ws A) (hl : ws.length ≤ 1000000) : Calls Try.prog 53 #[.slice Ac cs.length cc, .slice A ws.length c] w fun e w' => e = .returned (.int .i64 (costB cs ws)) ∧ w = w' := by
  have HLc := hc.l
  have c90 := fine_any Ac cc cs w hc.l hc.r
  have HC := Lib.hid hc; have HW := Lib.hid hw
  clear hc hw
  rcases hf : fineB cs with _ | _
  · rw [hf] at c90
    have C90 := Lib.hid c90
    have HR : Hid (costB cs ws = -1) := by show _ = _; unfold costB; rw [hf]; rfl
    clear c90 hf
    go_enter Try.func53, Try.ntmps53
    go_wp2_with fail
    refine C90.out.mono ?_
    rintro e w' ⟨rfl, rfl⟩
    go_wp2_with fail
    go_ret
    exact ⟨by rw [HR.out]; rfl, rfl⟩
  · rw [hf] at c90
    have C90 := Lib.hid c90; have HF := Lib.hid hf
    clear c90 hf
    go_enter Try.func53, Try.ntmps53
    go_wp2_with fail
    refine C90.out.mono ?_
    rintro e w' ⟨rfl, rfl⟩
    go_wp2_with fail
    go_loop [5, 7, 13] (fun sm _ i => ∃ (k : Nat) (S : Int), k ≤ ws.length ∧ i = .int .i64 k ∧ sm = .int .i64 S ∧ Hid (S = costW cs (ws.take k)) ∧ Hid (symsB cs.length (ws.take k) = true)) (fun _ _ i => ws.length - (intOf i).toNat)
    case atStart => exact ⟨0, 0, Nat.zero_le _, rfl, rfl, rfl, rfl⟩
    case round =>
      obtain ⟨k, S, hk, rfl, rfl, HS, HY⟩ := hrel
      have hsum := cost_sum HF.out _ HY.out
      rw [← HS.out, List.length_take, Nat.min_eq_left hk] at hsum
      obtain ⟨hS0, hS1⟩ := hsum
      by_cases hlt : k < ws.length
      · obtain ⟨b, o, x, rfl, hb, hcx, hx⟩ := HW.out.r.int_at hlt
        have HX := Lib.hid hx
        clear hx
        by_cases h1 : x < 0
        · have HR : Hid (costB cs ws = -1) := by show _ = _; unfold costB; rw [symsB_no HX.out (by omega)]; simp
          go_wp2_with fail
          go_ret
          exact ⟨by rw [HR.out]; rfl, rfl⟩
        · by_cases h2 : (cs.length : Int) ≤ x
          · have HR : Hid (costB cs ws = -1) := by show _ = _; unfold costB; rw [symsB_no HX.out (by omega)]; simp
            go_wp2_with fail
            go_ret
            exact ⟨by rw [HR.out]; rfl, rfl⟩
          · obtain ⟨gc, oc, cx, rfl, hgc, hcc, hcv⟩ := HC.out.r.int_ix (i := x) (by omega) (by omega)
            have hcv' : cst cs x = cx := hcv
            have hN : Hid (S + cx = costW cs (ws.take (k + 1))) := by show _ = _; rw [costW_take HX.out, ← HS.out, hcv']
            have hY : Hid (symsB cs.length (ws.take (k + 1)) = true) := symsB_take HY.out HX.out (by omega)
            have hb2 := cost_sum HF.out _ hY.out
            rw [← hN.out, List.length_take] at hb2
            have hmin : min (k + 1) ws.length ≤ 1000000 := by omega
            have hx0 : 0 ≤ x := by omega
            have hx1 : x < cs.length := by omega
            obtain ⟨hb3, hb4⟩ := hb2
            clear hcv hcv'
            go_wp2_with fail
            go_round
            case rel => exact ⟨k + 1, S + cx, by omega, by go_num, by go_num, hN, hY⟩
            case measure => simp [intOf]; omega
      · have HR : Hid (costB cs ws = S) := by
          show _ = _
          have e1 := HS.out
          have e2 := HY.out
          rw [List.take_of_length_le (by omega)] at e1 e2
          unfold costB
          rw [HF.out, e2, e1]; rfl
        go_wp2_with fail
        go_ret
        exact ⟨by rw [HR.out]; rfl, rfl⟩
set_option maxHeartbeats 2000000 in
set_option maxRecDepth 100000 in
theorem refCost_any (A Ac : Option Addr) (c cc : Nat) (cs ws : List Int) (w : World) (hc : WIn w cs Ac) (hw : WIn w ws A) (hl : ws.length ≤ 1000000) : Calls Try.prog 52 #[.slice Ac cs.length cc, .slice A ws.length c] w (Ret (.int .i64 (costB cs ws)) w) := by
  have HLc := hc.l
  have c92 := refFine_any Ac cc cs w hc
  have c35 := fun (W : World) (hb : Below w.heap.size w W) => symbols_c (cs.length : Int) (hw.up hb) c
  have HC := Lib.hid hc; have HW := Lib.hid hw
  clear hc hw
  rcases hf : fineB cs with _ | _
  · rw [hf] at c92
    have C92 := Lib.hid c92
    have HR : Hid (costB cs ws = -1) := by show _ = _; unfold costB; rw [hf]; rfl
    clear c92 c35 hf
    go_enter Try.func52, Try.ntmps52
    go_wp2_with fail
    refine C92.out.mono ?_
    rintro e w' ⟨rfl, rfl⟩
    go_wp2_with fail
    go_ret
    exact ⟨by rw [HR.out]; rfl, Below.refl _ _⟩
  · rw [hf] at c92
    have C92 := Lib.hid c92; have HF := Lib.hid hf
    clear c92 hf
    rcases hs : symsB cs.length ws with _ | _
    · rw [hs] at c35
      have C35 := Lib.hid c35
      have HR : Hid (costB cs ws = -1) := by show _ = _; unfold costB; rw [hs]; simp
      clear c35 hs
      go_enter Try.func52, Try.ntmps52
      go_wp2_with fail
      refine C92.out.mono ?_
      rintro e w' ⟨rfl, rfl⟩
      go_wp2_with fail
      refine (C35.out _ (Below.refl _ _)).mono ?_
      rintro e w1 ⟨rfl, hb1⟩
      go_wp2_with fail
      go_ret
      exact ⟨by rw [HR.out]; rfl, hb1⟩
    · rw [hs] at c35
      have C35 := Lib.hid c35; have HSY := Lib.hid hs
      clear c35 hs
      go_enter Try.func52, Try.ntmps52
      go_wp2_with fail
      refine C92.out.mono ?_
      rintro e w' ⟨rfl, rfl⟩
      go_wp2_with fail
      refine (C35.out _ (Below.refl _ _)).mono ?_
      rintro e w1 ⟨rfl, hb1⟩
      have HB := Lib.hid hb1
      have HC1 := Lib.hid (HC.out.up hb1); have HW1 := Lib.hid (HW.out.up hb1)
      clear hb1 HC HW
      go_wp2_with fail
      go_loop [5, 7, 20] (fun sm _ i => ∃ (k : Nat) (S : Int), k ≤ ws.length ∧ i = .int .i64 k ∧ sm = .int .i64 S ∧ Hid (S = costW cs (ws.take k)) ∧ Hid (symsB cs.length (ws.take k) = true)) (fun _ _ i => ws.length - (intOf i).toNat)
      case atStart => exact ⟨0, 0, Nat.zero_le _, rfl, rfl, rfl, rfl⟩
      case round =>
        obtain ⟨k, S, hk, rfl, rfl, HS, HY⟩ := hrel
        have hsum := cost_sum HF.out _ HY.out
        rw [← HS.out, List.length_take, Nat.min_eq_left hk] at hsum
        obtain ⟨hS0, hS1⟩ := hsum
        by_cases hlt : k < ws.length
        · obtain ⟨b, o, x, rfl, hb, hcx, hx⟩ := HW1.out.r.int_at hlt
          have HX := Lib.hid hx
          obtain ⟨hx0, hx1⟩ := symsB_iff.1 HSY.out x (List.mem_of_getElem? hx)
          clear hx
          obtain ⟨gc, oc, cx, rfl, hgc, hcc, hcv⟩ := HC1.out.r.int_ix (i := x) (by omega) (by omega)
          have hcv' : cst cs x = cx := hcv
          have hN : Hid (S + cx = costW cs (ws.take (k + 1))) := by show _ = _; rw [costW_take HX.out, ← HS.out, hcv']
          have hY : Hid (symsB cs.length (ws.take (k + 1)) = true) := symsB_take HY.out HX.out (by omega)
          have hb2 := cost_sum HF.out _ hY.out
          rw [← hN.out, List.length_take] at hb2
          have hmin : min (k + 1) ws.length ≤ 1000000 := by omega
          obtain ⟨hb3, hb4⟩ := hb2
          clear hcv hcv'
          go_wp2_with fail
          go_round
          case rel => exact ⟨k + 1, S + cx, by omega, by go_num, by go_num, hN, hY⟩
          case measure => simp [intOf]; omega
        · have HR : Hid (costB cs ws = S) := by
            show _ = _
            have e1 := HS.out
            rw [List.take_of_length_le (by omega)] at e1
            unfold costB
            rw [HF.out, HSY.out, e1]; rfl
          go_wp2_with fail
          go_ret
          exact ⟨by rw [HR.out]; rfl, HB.out⟩
end Go.Proofs.Ytmpcoclgcldclaa
