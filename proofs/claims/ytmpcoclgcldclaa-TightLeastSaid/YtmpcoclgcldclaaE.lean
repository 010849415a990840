/- The walks of the reference's Right and Tells. -/
import Derived.Test.YtmpcoclgcldclaaC
namespace Go.Proofs.Ytmpcoclgcldclaa
open Go.RowKit

set_option maxHeartbeats 1000000 in
set_option maxRecDepth 100000 in
theorem refRight_any (d : D) (An Aa : Option Addr) (cn ca : Nat) (w : World)
    (hn2 : d.N.length ≤ 9223372036854775807) (ha2 : d.A.length ≤ 9223372036854775807) (hr : Rd w w.heap.size An (d.N.map (Value.int .i64))) :
    Calls Try.prog 28 #[dfaV d.K d.S An d.N.length cn Aa d.A.length ca] w fun e w' => e = .returned (.bool d.right) ∧ Below w.heap.size w w' := by
  have HR := Lib.hid hr; clear hr
  have hmf : ∀ (fn : Fn) (first cap : Array Value) (w : World), (Instr.makeFunc fn first cap).run Try.prog w = .ok (.func fn first cap) w := fun _ _ _ _ => rfl
  obtain ⟨K, S, N, A⟩ := d
  have hd : (D.mk K S N A).Ok ↔ 1 ≤ K ∧ K ≤ 512 ∧ 1 ≤ A.length ∧ A.length ≤ 65536 ∧ (N.length : Int) = A.length * K ∧ 0 ≤ S ∧ S < A.length ∧ ∀ s ∈ N, 0 ≤ s ∧ s < A.length := Iff.rfl
  have HD := Lib.hid hd
  clear hd
  show Calls Try.prog 28 #[dfaV K S An N.length cn Aa A.length ca] w fun e w' => e = .returned (.bool (D.mk K S N A).right) ∧ Below w.heap.size w w'
  replace hn2 : N.length ≤ 9223372036854775807 := hn2
  replace ha2 : A.length ≤ 9223372036854775807 := ha2
  by_cases h1 : K < 1
  · have hf := D.right_false.2 fun h => by have := HD.out.1 h; omega
    rw [hf]
    clear hf
    go_enter Try.func28, Try.ntmps28
    go_wp2
    go_ret
    exact ⟨rfl, ((Below.refl _ _).alloc (Nat.le_refl _) _)⟩
  by_cases h2 : 512 < K
  · have hf := D.right_false.2 fun h => by have := HD.out.1 h; omega
    rw [hf]
    clear hf
    go_enter Try.func28, Try.ntmps28
    go_wp2
    go_ret
    exact ⟨rfl, ((Below.refl _ _).alloc (Nat.le_refl _) _)⟩
  by_cases h3 : A.length < 1
  · have hf := D.right_false.2 fun h => by have := HD.out.1 h; omega
    rw [hf]
    clear hf
    go_enter Try.func28, Try.ntmps28
    go_wp2
    go_ret
    exact ⟨rfl, ((Below.refl _ _).alloc (Nat.le_refl _) _)⟩
  by_cases h4 : 65536 < A.length
  · have hf := D.right_false.2 fun h => by have := HD.out.1 h; omega
    rw [hf]
    clear hf
    go_enter Try.func28, Try.ntmps28
    go_wp2
    go_ret
    exact ⟨rfl, ((Below.refl _ _).alloc (Nat.le_refl _) _)⟩
  have hm : 0 ≤ (A.length : Int) * K ∧ (A.length : Int) * K ≤ 33554432 := by
    constructor
    · exact Int.mul_nonneg (by omega) (by omega)
    · exact Int.le_trans (Int.mul_le_mul (show (A.length : Int) ≤ 65536 by omega) (show K ≤ 512 by omega) (by omega) (by omega)) (by decide)
  obtain ⟨hm1, hm2⟩ := hm
  by_cases h5 : ¬ (N.length : Int) = A.length * K
  · have h5' : ((N.length : Int) != A.length * K) = true := by simpa using h5
    have hf := D.right_false.2 fun h => by exact h5 (HD.out.1 h).2.2.2.2.1
    rw [hf]
    clear hf h5
    go_enter Try.func28, Try.ntmps28
    go_wp2
    go_ret
    exact ⟨rfl, ((Below.refl _ _).alloc (Nat.le_refl _) _)⟩
  have h5' : ((N.length : Int) != A.length * K) = false := by simpa using h5
  have H5 := Lib.hid (Decidable.not_not.1 h5)
  clear h5
  have HD5 := Lib.hid (show (N.length : Int) = A.length * K from H5.out)
  have hbx : Below w.heap.size w (w.alloc (.cells #[.int .i64 K, .int .i64 S, .slice An N.length cn, .slice Aa A.length ca] 25)) := (Below.refl _ _).alloc (Nat.le_refl _) _
  have HBX := Lib.hid hbx; clear hbx
  go_enter Try.func28, Try.ntmps28
  go_wp2_with fail
  go_loop [5, 38] (fun _ i => ∃ k : Nat, k ≤ N.length ∧ i = .int .i64 k ∧ Hid (∀ s ∈ N.take k, 0 ≤ s ∧ s < A.length)) (fun _ i => N.length - (intOf i).toNat)
  case atStart => exact ⟨0, Nat.zero_le _, rfl, fun _ h => by simp at h⟩
  case round =>
    obtain ⟨k, hk, rfl, HN⟩ := hrel
    by_cases hlt : k < N.length
    · obtain ⟨b, o, x, rfl, hb, hc, hx⟩ := ((HR.out.alloc (Nat.le_refl _) (.cells #[.int .i64 K, .int .i64 S, .slice An N.length cn, .slice Aa A.length ca] 25))).int_at hlt
      have HX := Lib.hid hx; clear hx
      by_cases hx0 : x < 0
      · go_wp2_with fail
        go_ret
        exact ⟨by rw [D.right_false.2 fun h => by have := (HD.out.1 h).2.2.2.2.2.2.2 x (List.mem_of_getElem? HX.out); omega]; rfl, HBX.out⟩
      by_cases hx1 : (A.length : Int) ≤ x
      · go_wp2_with fail
        go_ret
        exact ⟨by rw [D.right_false.2 fun h => by have := (HD.out.1 h).2.2.2.2.2.2.2 x (List.mem_of_getElem? HX.out); omega]; rfl, HBX.out⟩
      go_wp2_with fail
      go_round
      case rel =>
        refine ⟨k + 1, by omega, by go_num, fun s hs => ?_⟩
        rw [take_snoc HX.out, List.mem_append] at hs
        rcases hs with hs | hs
        · exact HN.out s hs
        · have : s = x := by simpa using hs
          omega
      case measure => simp [intOf]; omega
    · have hall : ∀ s ∈ N, 0 ≤ s ∧ s < A.length := by
        have := HN.out
        rwa [List.take_of_length_le (by omega)] at this
      have HALL := Lib.hid hall; clear hall
      by_cases h6 : S < 0
      · go_wp2_with fail
        go_ret
        exact ⟨by rw [D.right_false.2 fun h => by have := HD.out.1 h; omega]; rfl, HBX.out⟩
      by_cases h7 : (A.length : Int) ≤ S
      · go_wp2_with fail
        go_ret
        exact ⟨by rw [D.right_false.2 fun h => by have := HD.out.1 h; omega]; exact ret_bool (decide_eq_false (by omega)), HBX.out⟩
      · go_wp2_with fail
        go_ret
        exact ⟨by rw [D.right_true.2 (HD.out.2 ⟨by omega, by omega, by omega, by omega, H5.out, by omega, by omega, HALL.out⟩)]; rfl, HBX.out⟩

set_option maxHeartbeats 1000000 in
set_option maxRecDepth 100000 in
theorem refTells_any (d : D) (An Aa Aw : Option Addr) (cn ca cw : Nat) (ws : List Int) (w : World)
    (hn2 : d.N.length ≤ 9223372036854775807) (ha2 : d.A.length ≤ 9223372036854775807) (hw2 : ws.length ≤ 9223372036854775807)
    (hrn : Rd w w.heap.size An (d.N.map (Value.int .i64))) (hra : Rd w w.heap.size Aa (d.A.map Value.bool)) (hrw : Rd w w.heap.size Aw (ws.map (Value.int .i64))) :
    Calls Try.prog 30 #[dfaV d.K d.S An d.N.length cn Aa d.A.length ca, .slice Aw ws.length cw] w fun e w' => e = .returned (.bool (d.tells ws)) ∧ Below w.heap.size w w' := by
  have HRN := Lib.hid hrn; clear hrn
  have HRA := Lib.hid hra; clear hra
  have HRW := Lib.hid hrw; clear hrw
  have hcall := fun (W : World) (h : Rd W W.heap.size An (d.N.map (Value.int .i64))) => refRight_any d An Aa cn ca W hn2 ha2 h
  have HC := Lib.hid hcall; clear hcall
  go_enter Try.func30, Try.ntmps30
  go_wp2_with fail
  refine (HC.out _ ?_).mono ?_
  · exact (HRN.out.alloc (Nat.le_refl _) _).more (by simp)
  rintro e w1 ⟨rfl, hb1⟩
  have hc1 := bcell hb1
  obtain ⟨hcell, hfroz⟩ := hc1
  have hbw : Below w.heap.size w w1 := ((Below.refl _ _).alloc (Nat.le_refl _) _).trans (hb1.mono (by simp))
  have HBW := Lib.hid hbw; clear hbw
  generalize hri : d.right = rb
  have HRI := Lib.hid hri; clear hri
  cases rb
  · go_wp2_with fail
    go_ret
    exact ⟨by rw [tells_no HRI.out]; rfl, HBW.out⟩
  · have hok : d.Ok := D.right_true.1 HRI.out
    have HOK := Lib.hid hok; clear hok
    have f0 : w1.cell? ⟨w.heap.size, 0, none⟩ = some (.int .i64 d.K) := by rw [hcell _ _ (by simp)]; simp
    have f1 : w1.cell? ⟨w.heap.size, 1, none⟩ = some (.int .i64 d.S) := by rw [hcell _ _ (by simp)]; simp
    have f2 : w1.cell? ⟨w.heap.size, 2, none⟩ = some (.slice An d.N.length cn) := by rw [hcell _ _ (by simp)]; simp
    have f3 : w1.cell? ⟨w.heap.size, 3, none⟩ = some (.slice Aa d.A.length ca) := by rw [hcell _ _ (by simp)]; simp
    have HRN1 := Lib.hid (HRN.out.below HBW.out)
    have HRA1 := Lib.hid (HRA.out.below HBW.out)
    have HRW1 := Lib.hid (HRW.out.below HBW.out)
    clear hcell hfroz hb1
    go_wp2_with fail
    go_loop [5, 7, 15] (fun at_ _ i => ∃ k : Nat, k ≤ ws.length ∧ i = .int .i64 k ∧ ∃ s : Int, at_ = .int .i64 s ∧ (0 ≤ s ∧ s < d.A.length ∧ Hid (s = d.run d.S (ws.take k)) ∧ symsB d.K (ws.take k) = true)) (fun _ _ i => ws.length - (intOf i).toNat)
    case atStart => exact ⟨0, Nat.zero_le _, rfl, d.S, rfl, HOK.out.2.2.2.2.2.1, HOK.out.2.2.2.2.2.2.1, rfl, rfl⟩
    case round =>
      obtain ⟨k, hk, rfl, s, rfl, hs0, hs1, HS, hsy⟩ := hrel
      have HSY := Lib.hid hsy; clear hsy
      by_cases hlt : k < ws.length
      · obtain ⟨b, o, x, rfl, hb, hc, hx⟩ := HRW1.out.int_at hlt
        have HX := Lib.hid hx; clear hx
        by_cases hx0 : x < 0
        · go_wp2_with fail
          go_ret
          exact ⟨by rw [tells_nosym (symsB_no HX.out (by omega))]; rfl, HBW.out⟩
        by_cases hx1 : d.K ≤ x
        · go_wp2_with fail
          go_ret
          exact ⟨by rw [tells_nosym (symsB_no HX.out (by omega))]; rfl, HBW.out⟩
        have hmb := HOK.out.mul_bd (s := s) ⟨hs0, hs1⟩
        have hix := HOK.out.idx (s := s) (x := x) ⟨hs0, hs1⟩ ⟨by omega, by omega⟩
        have hst := HOK.out.step_lt (s := s) (x := x) ⟨hs0, hs1⟩ ⟨by omega, by omega⟩
        obtain ⟨b2, o2, y, hA2, hb2, hc2, hy⟩ := HRN1.out.int_ix hix.1 hix.2
        have hy' : d.step s x = y := hy
        rw [hy'] at hst
        subst hA2
        have HY := Lib.hid hy'; clear hy hy'
        obtain ⟨hmb1, hmb2⟩ := hmb
        obtain ⟨hix1, hix2⟩ := hix
        obtain ⟨hst1, hst2⟩ := hst
        go_wp2_with fail
        go_round
        case rel => exact ⟨k + 1, by omega, by go_num, y, rfl, by omega, by omega, by rw [take_snoc HX.out, D.run_snoc, ← HS.out, HY.out]; rfl, by rw [take_snoc HX.out, symsB_snoc, HSY.out]; simp; omega⟩
        case measure => simp [intOf]; omega
      · obtain ⟨b2, o2, y, hA2, hb2, hc2, hy⟩ := HRA1.out.bool_ix hs0 hs1
        subst hA2
        have HY := Lib.hid hy; clear hy
        go_wp2_with fail
        go_ret
        exact ⟨by rw [tells_yes HRI.out HS.out HSY.out (by omega)]; exact ret_bool HY.out.symm, HBW.out⟩
end Go.Proofs.Ytmpcoclgcldclaa
