/- The walk of the reference's Like. -/
import Derived.Test.YtmpcoclgcldclaaU
import Derived.BigQuiet
namespace Go.Proofs.Ytmpcoclgcldclaa
open Go.RowKit
attribute [local go_sem ↓] Go.wp_at_zero Go.wp_at_succ

/-- the box of an automaton -/
abbrev BlkD (w : World) (g : Nat) (d : D) (An : Option Addr) (cn : Nat) (Aa : Option Addr) (ca : Nat) : Prop := Blk w g 25 #[.int .i64 d.K, .int .i64 d.S, .slice An d.N.length cn, .slice Aa d.A.length ca]

theorem bel_drewN {B : Nat} {w w' : World} (h : Below B w w') (n : Nat) : Below B w (w'.drewN n) := ⟨h.os, h.tape, h.output, h.size, h.block⟩
/-- the answer of Like, and nothing turned below -/
def LikeR (a b : D) (w : World) (e : Ending) (w' : World) : Prop := ∃ r : Bool, e = .returned (.bool r) ∧ (r = true ↔ LikeP a b) ∧ Below w.heap.size w w'

theorem likeP_of {a b : D} {L : List (Int × Int)} (h : PInv a b L L.length 0) (hall : ∀ p ∈ L.take L.length, a.acc p.1 = b.acc p.2) : LikeP a b := by
  rw [List.take_length] at hall
  exact fun p hp => hall p (h.all hp)

set_option maxHeartbeats 2000000 in
set_option maxRecDepth 100000 in
theorem like_any (a b : D) (Aan Aaa Abn Aba : Option Addr) (can caa cbn cba : Nat) (w : World) (ha : a.Ok) (hb : b.Ok) (hK : a.K = b.K) (hsz : a.A.length * b.A.length ≤ 1000000)
    (han : Rd w w.heap.size Aan (a.N.map (Value.int .i64))) (hbn : Rd w w.heap.size Abn (b.N.map (Value.int .i64))) (haa : Rd w w.heap.size Aaa (a.A.map Value.bool)) (hba : Rd w w.heap.size Aba (b.A.map Value.bool)) :
    Calls Try.prog 38 #[dfaV a.K a.S Aan a.N.length can Aaa a.A.length caa, dfaV b.K b.S Abn b.N.length cbn Aba b.A.length cba] w (LikeR a b w) := by
  have hkk : (a.K != b.K) = false := by rw [hK]; simp
  have hc := fun (W : World) (hw : Below w.heap.size w W) => pairs_any a b Aan Aaa Abn Aba can caa cbn cba W ha hb hK hsz (han.up (Nat.le_refl _) hw) (hbn.up (Nat.le_refl _) hw)
  have HC := Lib.hid hc; have HAA := Lib.hid haa; have HBA := Lib.hid hba; have HA := Lib.hid ha; have HB := Lib.hid hb; have HK := Lib.hid hK; have HSZ := Lib.hid hsz
  clear hc han hbn haa hba ha hb hK hsz
  go_enter Try.func38, Try.ntmps38
  go_wp2_with fail
  refine (HC.out _ ?_).mono ?_
  · exact ((Below.refl _ _).alloc (Nat.le_refl _) _).alloc (by simp) _
  rintro e w1 ⟨A, c, L, rfl, ho, hp, hb1⟩
  have hL : L.length ≤ 1000000 := Nat.le_trans (hp.len HA.out HB.out HK.out) HSZ.out
  have hk0 : BlkD w1 w.heap.size a Aan can Aaa caa := blk_below ((Blk.new w 25 #[.int .i64 a.K, .int .i64 a.S, .slice Aan a.N.length can, .slice Aaa a.A.length caa]).alloc (.cells #[.int .i64 b.K, .int .i64 b.S, .slice Abn b.N.length cbn, .slice Aba b.A.length cba] 25)) hb1
  have hk1 : BlkD w1 (w.heap.size + 1) b Abn cbn Aba cba := by
    have h := blk_below (Blk.new (w.alloc (.cells #[.int .i64 a.K, .int .i64 a.S, .slice Aan a.N.length can, .slice Aaa a.A.length caa] 25)) 25 #[.int .i64 b.K, .int .i64 b.S, .slice Abn b.N.length cbn, .slice Aba b.A.length cba]) hb1
    simpa only [size_alloc_one] using h
  have hw1 : Below w.heap.size w w1 := (((Below.refl _ _).alloc (Nat.le_refl _) _).alloc (by simp) _).trans (hb1.mono (by simp; omega))
  have hr := Rd2.of_own ho (Nat.le_refl _)
  have HR := Lib.hid hr; have HP := Lib.hid hp; have HK0 := Lib.hid hk0; have HK1 := Lib.hid hk1; have HW := Lib.hid hw1
  clear ho hb1 hr hp hk0 hk1 hw1
  go_wp2_with fail
  go_loopw [6, 16] (fun _ i wr => ∃ k : Nat, i = .int .i64 k ∧ k ≤ L.length ∧ Hid (∀ p ∈ L.take k, a.acc p.1 = b.acc p.2) ∧ Hid (BlkD wr w.heap.size a Aan can Aaa caa) ∧ Hid (BlkD wr (w.heap.size + 1) b Abn cbn Aba cba) ∧ Hid (Below w.heap.size w wr) ∧ Hid (Below w1.heap.size w1 wr)) (fun _ i _ => L.length - (intOf i).toNat)
  case atStart => exact ⟨0, rfl, Nat.zero_le _, by simp [Hid], HK0, HK1, HW, Below.refl _ _⟩
  case round =>
    clear HK0 HK1 HW
    obtain ⟨k, rfl, hk, HALL, HK0, HK1, HW, HW1⟩ := hrel
    by_cases hlt : k < L.length
    · obtain ⟨g, o, p, rfl, hg, hc1, hc2, hpk⟩ := (show Rd2 wr w1.heap.size A L from HR.out.below HW1.out).at_ hlt
      obtain ⟨p1, p2⟩ := p
      have HPK := Lib.hid hpk; clear hpk
      have hr := (HP.out.reach _ (List.mem_of_getElem? HPK.out)).lt HA.out HB.out HK.out
      obtain ⟨⟨hr1, hr2⟩, hr3, hr4⟩ := hr
      simp only [] at hr1 hr2 hr3 hr4
      obtain ⟨⟨f0, f1, f2, f3⟩, _⟩ := blk4 HK0.out
      obtain ⟨⟨e0, e1, e2, e3⟩, _⟩ := blk4 HK1.out
      obtain ⟨ga, oa, va, hAa, hga, hca, hva⟩ := (HAA.out.below HW.out).bool_ix hr1 hr2
      obtain ⟨gb, ob, vb, hAb, hgb, hcb, hvb⟩ := (HBA.out.below HW.out).bool_ix hr3 hr4
      have HVA : Hid (a.acc p1 = va) := hva
      have HVB : Hid (b.acc p2 = vb) := hvb
      subst hAa hAb
      clear hva hvb
      have hs0 : w.heap.size < wr.heap.size := HK0.out.lt
      have hs1 : w.heap.size + 1 < wr.heap.size := HK1.out.lt
      have hs3 : ga < wr.heap.size := by omega
      have hs4 : gb < wr.heap.size := by omega
      go_wp2_with fail
      go_quiet (fail)
      rcases hab : va == vb with _ | _
      · have HE : Hid (va ≠ vb) := (by simpa using hab : va ≠ vb)
        go_wp2_with fail
        go_ret
        refine ⟨false, rfl, ?_, bel_drewN (HW.out.alloc HW.out.size _) _⟩
        constructor
        · intro h; cases h
        · intro h
          have := h _ (HP.out.reach _ (List.mem_of_getElem? HPK.out))
          exact absurd (HVA.out.symm.trans (this.trans HVB.out)) HE.out
      · have HE : Hid (va = vb) := (by simpa using hab : va = vb)
        go_wp2_with fail
        go_roundw
        case rel =>
          refine ⟨k + 1, by go_num, by omega, ?_, (HK0.out.alloc _).drewN _, (HK1.out.alloc _).drewN _, bel_drewN (HW.out.alloc HW.out.size _) _, bel_drewN (HW1.out.alloc HW1.out.size _) _⟩
          intro q hq
          rw [take_snoc HPK.out] at hq
          rcases List.mem_append.1 hq with hq | hq
          · exact HALL.out q hq
          · rw [List.mem_singleton.1 hq]
            exact HVA.out.trans (HE.out.trans HVB.out.symm)
        case measure => simp [intOf]; omega
    · have hkl : k = L.length := by omega
      subst hkl
      go_wp2_with fail
      go_ret
      exact ⟨true, rfl, ⟨fun _ => likeP_of HP.out HALL.out, fun _ => rfl⟩, HW.out⟩
end Go.Proofs.Ytmpcoclgcldclaa
