/- The walks of tight's own and of the document's Equal and Unlike. -/
import Derived.Test.YtmpcoclgcldclaaTB
import Derived.Test.YtmpcoclgcldclaaTP
import Derived.BigQuiet
namespace Go.Proofs.Ytmpcoclgcldclaa
open Go.RowKit
attribute [local go_sem ↓] Go.wp_at_zero Go.wp_at_succ

theorem bool_cell {w : World} {base g c n : Nat} {xs : List Bool} (h : w.ownsRow base 4 1 (.slice (some ⟨g, 0, none⟩) n c) n (xs.map Value.bool)) (hl : xs.length = n) {p : Nat} (hp : p < n) : w.cell? ⟨g, p, none⟩ = some (.bool (uAt xs p)) ∧ w.frozen? ⟨g, p, none⟩ = false := by
  refine ⟨?_, h.frozenAt _⟩
  rw [h.cellAt _ (by omega), List.getElem?_map, List.getElem?_eq_getElem (by omega)]
  unfold uAt
  rw [List.getD_eq_getElem?_getD, List.getElem?_eq_getElem (by omega)]
  rfl
theorem int_cell {w : World} {base g c n : Nat} {xs : List Int} (h : w.ownsRow base 3 1 (.slice (some ⟨g, 0, none⟩) n c) n (xs.map (Value.int .i64))) (hl : xs.length = n) {p : Nat} (hp : p < n) : w.cell? ⟨g, p, none⟩ = some (.int .i64 (gI xs p)) ∧ w.frozen? ⟨g, p, none⟩ = false := by
  refine ⟨?_, h.frozenAt _⟩
  rw [h.cellAt _ (by omega), List.getElem?_map, List.getElem?_eq_getElem (by omega)]
  unfold gI
  rw [List.getD_eq_getElem?_getD, List.getElem?_eq_getElem (by omega)]
  rfl

set_option maxHeartbeats 2000000 in
set_option maxRecDepth 100000 in
theorem own_any (d : D) (An Aa : Option Addr) (cn ca : Nat) (w : World) (hA : d.A.length ≤ 65536) :
    Calls Try.prog 94 #[dfaV d.K d.S An d.N.length cn Aa d.A.length ca] w fun e w' => ∃ A c cls, e = .returned (.slice A d.A.length c) ∧ cls.length = d.A.length ∧ (∀ i : Nat, i < d.A.length → gI cls i = (i : Int)) ∧ w'.ownsRow w.heap.size 3 1 (.slice A d.A.length c) d.A.length (cls.map (Value.int .i64)) ∧ Below w.heap.size w w' := by
  obtain ⟨i3, hi, hz, hs, hb⟩ := info_parts Try.info3
  have HI := Lib.hid hi; have HZ := Lib.hid hz; have HS := Lib.hid hs; have HB := Lib.hid hb
  clear hi hz hs hb
  have HW := Lib.hid (bel_new w (.cells #[.int .i64 d.K, .int .i64 d.S, .slice An d.N.length cn, .slice Aa d.A.length ca] 25))
  go_enter Try.func94, Try.ntmps94
  go_wp2_with (refine wpList_make_full _ rfl (.tmp 7) (.tmp 7) 22 rfl w.heap.size 3 i3 (.int .i64 0) 1 Try.underlying22 HI.out HZ.out HS.out .i64 .i64 _ _ d.A.length rfl rfl rfl rfl ?b2 ?b3 ?b4 ?_)
  case b2 => rw [HB.out]; omega
  case b3 => unfold maxLen; omega
  case b4 => exact HW.out.size
  intro w1 hown1 hgr1
  rw [toList_madeCells_one] at hown1
  have hbel : Below (w.heap.size + 1) (w.alloc (.cells #[.int .i64 d.K, .int .i64 d.S, .slice An d.N.length cn, .slice Aa d.A.length ca] 25)) w1 := (Touch.ofGrown hgr1).toBelow (by simp) (fun k hk e => by cases e)
  replace HW := Lib.hid (HW.out.trans (hbel.mono (by omega)))
  try simp only [size_alloc_one] at hown1 ⊢
  have HR0 : Hid (w1.ownsRow w.heap.size 3 1 (.slice (some ⟨w.heap.size + 1, 0, none⟩) d.A.length d.A.length) d.A.length ((List.replicate d.A.length (0 : Int)).map (Value.int .i64))) := by
    show World.ownsRow _ _ _ _ _ _ _
    rw [List.map_replicate]; exact hown1
  clear hown1 hgr1 hbel
  go_wp2_with fail
  go_loopw [4, 11] (fun _ i wr => ∃ (j : Nat) (cls : List Int), i = .int .i64 j ∧ j ≤ d.A.length ∧ Hid (cls.length = d.A.length) ∧ Hid (∀ i : Nat, i < j → gI cls i = (i : Int)) ∧ Hid (wr.ownsRow w.heap.size 3 1 (.slice (some ⟨w.heap.size + 1, 0, none⟩) d.A.length d.A.length) d.A.length (cls.map (Value.int .i64))) ∧ Hid (Below w.heap.size w wr)) (fun _ i _ => d.A.length - (intOf i).toNat)
  case atStart => exact ⟨0, _, rfl, Nat.zero_le _, (by simp [Hid]), (fun i h => by omega), HR0, HW⟩
  case round =>
    clear HR0 HW
    obtain ⟨j, cls, rfl, hj, HL, HC, HR, HW⟩ := hrel
    by_cases hlt : j < d.A.length
    · obtain ⟨q1, q2⟩ := int_cell HR.out HL.out hlt
      have hgl : w.heap.size + 1 < wr.heap.size := (HR.out.lt _ rfl).2
      have hj0 : (0 : Int) ≤ j := by omega
      have hj1 : (j : Int) < d.A.length := by omega
      have hst := HR.out.stored j (.int .i64 (j : Int))
      rw [← List.map_set] at hst
      have HST := Lib.hid hst.1
      have HT := Lib.hid (Touch.ofGrown hst.2)
      have HC2 : Hid (∀ i : Nat, i < j + 1 → gI (cls.set j (j : Int)) i = (i : Int)) := fun i hi => by
        by_cases e : j = i
        · subst e; exact gI_set_same (by rw [HL.out]; exact hlt)
        · rw [gI_set_ne e]; exact HC.out i (by omega)
      have HL2 : Hid ((cls.set j (j : Int)).length = d.A.length) := by show _ = _; rw [List.length_set]; exact HL.out
      clear hst
      go_wp2_with fail
      go_roundw
      case rel => exact ⟨j + 1, _, by go_num, by omega, HL2, HC2, HST, HW.out.trans (HT.out.toBelow HW.out.size (fun k hk e => by injection e with e; omega))⟩
      case measure => simp [intOf]; omega
    · obtain rfl : j = d.A.length := by omega
      go_wp2_with fail
      go_ret
      exact ⟨_, _, cls, rfl, HL.out, HC.out, HR.out, HW.out⟩

instance instDecidableEqD : DecidableEq D := fun a b =>
  if h : a.K = b.K ∧ a.S = b.S ∧ a.N = b.N ∧ a.A = b.A then .isTrue (by cases a; cases b; simp at h; simp [h]) else .isFalse (fun e => h (by subst e; exact ⟨rfl, rfl, rfl, rfl⟩))
end Go.Proofs.Ytmpcoclgcldclaa
