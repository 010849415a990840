/- The walks of zero (layer 15), and of the reference's Symbols and Begins. -/
import Derived.Test.YtmpcoclgcldclaaN
import Derived.Test.YtmpcoclgcldclaaW1
namespace Go.Proofs.Ytmpcoclgcldclaa
open Go.RowKit

def D.zeroB (d : D) : Bool := (d.K == 0) && ((d.S == 0) && (((d.N.length : Int) == 0) && ((d.A.length : Int) == 0)))

set_option maxHeartbeats 1000000 in
set_option maxRecDepth 100000 in
theorem zero_any (d : D) (An Aa : Option Addr) (cn ca : Nat) (w : World) :
    Calls Try.prog 34 #[dfaV d.K d.S An d.N.length cn Aa d.A.length ca] w fun e w' => e = .returned (.bool d.zeroB) ∧ Below w.heap.size w w' := by
  have hz : d.zeroB = ((d.K == 0) && ((d.S == 0) && (((d.N.length : Int) == 0) && ((d.A.length : Int) == 0)))) := rfl
  have HZ : ∀ b, ((d.K == 0) && ((d.S == 0) && (((d.N.length : Int) == 0) && ((d.A.length : Int) == 0)))) = b → d.zeroB = b := fun b h => hz.trans h
  clear hz
  have HZ' := Lib.hid HZ; clear HZ
  rcases h1 : d.K == 0 with _ | _
  · have hf := HZ'.out false (by rw [h1]; rfl)
    rw [hf]; clear hf
    go_enter Try.func34, Try.ntmps34
    go_wp2
    go_ret
    exact ⟨rfl, (Below.refl _ _).alloc (Nat.le_refl _) _⟩
  rcases h2 : d.S == 0 with _ | _
  · have hf := HZ'.out false (by rw [h1, h2]; rfl)
    rw [hf]; clear hf
    go_enter Try.func34, Try.ntmps34
    go_wp2
    go_ret
    exact ⟨rfl, (Below.refl _ _).alloc (Nat.le_refl _) _⟩
  rcases h3 : (d.N.length : Int) == 0 with _ | _
  · have hf := HZ'.out false (by rw [h1, h2, h3]; rfl)
    rw [hf]; clear hf
    go_enter Try.func34, Try.ntmps34
    go_wp2
    go_ret
    exact ⟨rfl, (Below.refl _ _).alloc (Nat.le_refl _) _⟩
  · have hf := HZ'.out ((d.A.length : Int) == 0) (by rw [h1, h2, h3]; rfl)
    rw [hf]; clear hf
    rcases h4 : (d.A.length : Int) == 0 with _ | _
    all_goals
      go_enter Try.func34, Try.ntmps34
      go_wp2
      go_ret
      exact ⟨rfl, (Below.refl _ _).alloc (Nat.le_refl _) _⟩

set_option maxHeartbeats 1000000 in
set_option maxRecDepth 100000 in
theorem symbols_any (k : Int) (ws : List Int) (Aw : Option Addr) (cw : Nat) (w : World) (hw2 : ws.length ≤ 9223372036854775807) (hrw : Rd w w.heap.size Aw (ws.map (Value.int .i64))) :
    Calls Try.prog 35 #[.int .i64 k, .slice Aw ws.length cw] w fun e w' => e = .returned (.bool (symsB k ws)) ∧ w = w' := by
  have HRW := Lib.hid hrw; clear hrw
  go_enter Try.func35, Try.ntmps35
  go_wp2_with fail
  go_loop [6, 9] (fun _ i => ∃ j : Nat, j ≤ ws.length ∧ i = .int .i64 j ∧ Hid (symsB k (ws.take j) = true)) (fun _ i => ws.length - (intOf i).toNat)
  case atStart => exact ⟨0, Nat.zero_le _, rfl, rfl⟩
  case round =>
    obtain ⟨j, hj, rfl, HS⟩ := hrel
    by_cases hlt : j < ws.length
    · obtain ⟨b, o, x, rfl, hb, hc, hx⟩ := HRW.out.int_at hlt
      have HX := Lib.hid hx; clear hx
      by_cases hx0 : x < 0
      · go_wp2_with fail
        go_ret
        exact ⟨by rw [symsB_no HX.out (by omega)]; rfl, rfl⟩
      by_cases hx1 : k ≤ x
      · go_wp2_with fail
        go_ret
        exact ⟨by rw [symsB_no HX.out (by omega)]; rfl, rfl⟩
      go_wp2_with fail
      go_round
      case rel => exact ⟨j + 1, by omega, by go_num, by rw [take_snoc HX.out, symsB_snoc, HS.out]; exact decide_eq_true (by omega)⟩
      case measure => simp [intOf]; omega
    · have hall := HS.out
      rw [List.take_of_length_le (by omega)] at hall
      have HALL := Lib.hid hall; clear hall
      go_wp2_with fail
      go_ret
      exact ⟨by rw [HALL.out]; rfl, rfl⟩

set_option maxHeartbeats 1000000 in
set_option maxRecDepth 100000 in
theorem refBegins_any (ws pre : List Int) (Aw Ap : Option Addr) (cw cp : Nat) (w : World) (hw2 : ws.length ≤ 9223372036854775807) (_hp2 : pre.length ≤ 9223372036854775807)
    (hrw : Rd w w.heap.size Aw (ws.map (Value.int .i64))) (hrp : Rd w w.heap.size Ap (pre.map (Value.int .i64))) :
    Calls Try.prog 36 #[.slice Aw ws.length cw, .slice Ap pre.length cp] w fun e w' => e = .returned (.bool (beginsB ws pre)) ∧ ∃ n, w' = w.drewN n := by
  have HRW := Lib.hid hrw; clear hrw
  have HRP := Lib.hid hrp; clear hrp
  by_cases hl : ws.length < pre.length
  · have hf : beginsB ws pre = false := decide_eq_false fun h => by
      have h2 := congrArg List.length h
      rw [List.length_take] at h2
      omega
    rw [hf]; clear hf
    go_enter Try.func36, Try.ntmps36
    go_wp2_with fail
    go_ret
    exact ⟨rfl, 0, rfl⟩
  go_enter Try.func36, Try.ntmps36
  go_wp2_with fail
  go_loopw [5, 13] (fun _ i wr => ∃ j : Nat, j ≤ pre.length ∧ i = .int .i64 j ∧ Hid (ws.take j = pre.take j) ∧ Hid (∃ n, wr = w.drewN n)) (fun _ i _ => pre.length - (intOf i).toNat)
  case atStart => exact ⟨0, Nat.zero_le _, rfl, rfl, 0, rfl⟩
  case round =>
    obtain ⟨j, hj, rfl, HE, HW⟩ := hrel
    obtain ⟨n, rfl⟩ := HW.out
    by_cases hlt : j < pre.length
    · obtain ⟨b, o, x, rfl, hb, hc, hx⟩ := HRW.out.int_at (show j < ws.length by omega)
      obtain ⟨b2, o2, y, rfl, hb2, hc2, hy⟩ := HRP.out.int_at hlt
      have HX := Lib.hid hx; clear hx
      have HY := Lib.hid hy; clear hy
      have hj0 : (0 : Int) ≤ j := by omega
      have hj1 : (j : Int) < pre.length := by omega
      have hj2 : (j : Int) < ws.length := by omega
      rcases hxy : x != y with _ | _
      · have HXY := Lib.hid (show x = y by simpa using hxy)
        go_wp2_with fail
        go_region
        go_wp2_with fail
        go_roundw
        case rel => exact ⟨j + 1, by omega, by go_num, by rw [take_snoc HX.out, take_snoc HY.out, HE.out, HXY.out]; rfl, n + 1, rfl⟩
        case measure => simp [intOf]; omega
      · have hne : ¬ x = y := by simpa using hxy
        have HF : Hid (beginsB ws pre = false) := by
          refine decide_eq_false fun h => hne ?_
          have h2 : (ws.take pre.length)[j]? = pre[j]? := by rw [h]
          rw [List.getElem?_take_of_lt hlt, HX.out, HY.out] at h2
          exact Option.some.inj h2
        clear hne
        go_wp2_with fail
        go_region
        go_wp2_with fail
        go_ret
        exact ⟨by rw [HF.out]; rfl, n + 1, rfl⟩
    · have HF : Hid (beginsB ws pre = true) := by
        have h := HE.out
        have e : j = pre.length := by omega
        rw [e, List.take_length] at h
        exact decide_eq_true h
      go_wp2_with fail
      go_ret
      exact ⟨by rw [HF.out]; rfl, n, rfl⟩
end Go.Proofs.Ytmpcoclgcldclaa
