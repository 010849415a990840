/- The walk of dfa.Tells. -/
import Derived.Test.YtmpcoclgcldclaaB
namespace Go.Proofs.Ytmpcoclgcldclaa
open Go.RowKit

theorem tells_no {d : D} {ws : List Int} (h : d.right = false) : d.tells ws = false := by rw [D.tells, h]; rfl
theorem tells_nosym {d : D} {ws : List Int} (h : symsB d.K ws = false) : d.tells ws = false := by rw [D.tells, h]; simp
theorem tells_yes {d : D} {ws : List Int} {k : Nat} {s : Int} (h : d.right = true) (hs : s = d.run d.S (ws.take k)) (hy : symsB d.K (ws.take k) = true) (hk : ws.length ≤ k) : d.tells ws = d.A.getD s.toNat false := by
  rw [List.take_of_length_le hk] at hs hy
  rw [D.tells, h, hy, hs]; rfl
set_option maxHeartbeats 1000000 in
set_option maxRecDepth 100000 in
theorem tells_any (d : D) (An Aa Aw : Option Addr) (cn ca cw : Nat) (ws : List Int) (w : World)
    (hn2 : d.N.length ≤ 9223372036854775807) (ha2 : d.A.length ≤ 9223372036854775807) (hw2 : ws.length ≤ 9223372036854775807)
    (hrn : Rd w w.heap.size An (d.N.map (Value.int .i64))) (hra : Rd w w.heap.size Aa (d.A.map Value.bool)) (hrw : Rd w w.heap.size Aw (ws.map (Value.int .i64))) :
    Calls Try.prog 29 #[dfaV d.K d.S An d.N.length cn Aa d.A.length ca, .slice Aw ws.length cw] w fun e w' => e = .returned (.bool (d.tells ws)) ∧ Below w.heap.size w w' := by
  have HRN := Lib.hid hrn; clear hrn
  have HRA := Lib.hid hra; clear hra
  have HRW := Lib.hid hrw; clear hrw
  have hcall := fun (W : World) (h : Rd W W.heap.size An (d.N.map (Value.int .i64))) => right_any d An Aa cn ca W hn2 ha2 h
  have HC := Lib.hid hcall; clear hcall
  go_enter Try.func29, Try.ntmps29
  go_wp2_with fail
  refine (HC.out _ ?_).mono ?_
  · exact (HRN.out.alloc (Nat.le_refl _) _).more (by simp)
  rintro e w1 ⟨rfl, hb1⟩
  have hc1 := bcell hb1
  obtain ⟨hcell, hfroz⟩ := hc1
  have hbw : Below w.heap.size w w1 := ((Below.refl _ _).alloc (Nat.le_refl _) _).trans (hb1.mono (by simp))
  have HBW := Lib.hid hbw; clear hbw
  generalize hri : d.right = rb
  have HRI := Lib.hid hri; clear hri
  cases rb
  · go_wp2_with fail
    go_ret
    exact ⟨by rw [tells_no HRI.out]; rfl, HBW.out⟩
  · have hok : d.Ok := D.right_true.1 HRI.out
    have HOK := Lib.hid hok; clear hok
    have f0 : w1.cell? ⟨w.heap.size, 0, none⟩ = some (.int .i64 d.K) := by rw [hcell _ _ (by simp)]; simp
    have f1 : w1.cell? ⟨w.heap.size, 1, none⟩ = some (.int .i64 d.S) := by rw [hcell _ _ (by simp)]; simp
    have f2 : w1.cell? ⟨w.heap.size, 2, none⟩ = some (.slice An d.N.length cn) := by rw [hcell _ _ (by simp)]; simp
    have f3 : w1.cell? ⟨w.heap.size, 3, none⟩ = some (.slice Aa d.A.length ca) := by rw [hcell _ _ (by simp)]; simp
    have HRN1 := Lib.hid (HRN.out.below HBW.out)
    have HRA1 := Lib.hid (HRA.out.below HBW.out)
    have HRW1 := Lib.hid (HRW.out.below HBW.out)
    clear hcell hfroz hb1
    go_wp2_with fail
    go_loop [5, 7, 15] (fun at_ _ i => ∃ k : Nat, k ≤ ws.length ∧ i = .int .i64 k ∧ ∃ s : Int, at_ = .int .i64 s ∧ (0 ≤ s ∧ s < d.A.length ∧ Hid (s = d.run d.S (ws.take k)) ∧ symsB d.K (ws.take k) = true)) (fun _ _ i => ws.length - (intOf i).toNat)
    case atStart => exact ⟨0, Nat.zero_le _, rfl, d.S, rfl, HOK.out.2.2.2.2.2.1, HOK.out.2.2.2.2.2.2.1, rfl, rfl⟩
    case round =>
      obtain ⟨k, hk, rfl, s, rfl, hs0, hs1, HS, hsy⟩ := hrel
      have HSY := Lib.hid hsy; clear hsy
      by_cases hlt : k < ws.length
      · obtain ⟨b, o, x, rfl, hb, hc, hx⟩ := HRW1.out.int_at hlt
        have HX := Lib.hid hx; clear hx
        by_cases hx0 : x < 0
        · go_wp2_with fail
          go_ret
          exact ⟨by rw [tells_nosym (symsB_no HX.out (by omega))]; rfl, HBW.out⟩
        by_cases hx1 : d.K ≤ x
        · go_wp2_with fail
          go_ret
          exact ⟨by rw [tells_nosym (symsB_no HX.out (by omega))]; rfl, HBW.out⟩
        have hmb := HOK.out.mul_bd (s := s) ⟨hs0, hs1⟩
        have hix := HOK.out.idx (s := s) (x := x) ⟨hs0, hs1⟩ ⟨by omega, by omega⟩
        have hst := HOK.out.step_lt (s := s) (x := x) ⟨hs0, hs1⟩ ⟨by omega, by omega⟩
        obtain ⟨b2, o2, y, hA2, hb2, hc2, hy⟩ := HRN1.out.int_ix hix.1 hix.2
        have hy' : d.step s x = y := hy
        rw [hy'] at hst
        subst hA2
        have HY := Lib.hid hy'; clear hy hy'
        obtain ⟨hmb1, hmb2⟩ := hmb
        obtain ⟨hix1, hix2⟩ := hix
        obtain ⟨hst1, hst2⟩ := hst
        go_wp2_with fail
        go_round
        case rel => exact ⟨k + 1, by omega, by go_num, y, rfl, by omega, by omega, by rw [take_snoc HX.out, D.run_snoc, ← HS.out, HY.out]; rfl, by rw [take_snoc HX.out, symsB_snoc, HSY.out]; simp; omega⟩
        case measure => simp [intOf]; omega
      · obtain ⟨b2, o2, y, hA2, hb2, hc2, hy⟩ := HRA1.out.bool_ix hs0 hs1
        subst hA2
        have HY := Lib.hid hy; clear hy
        go_wp2_with fail
        go_ret
        exact ⟨by rw [tells_yes HRI.out HS.out HSY.out (by omega)]; exact ret_bool HY.out.symm, HBW.out⟩
end Go.Proofs.Ytmpcoclgcldclaa
