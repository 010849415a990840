/- The walk of the document's Equal. -/
import Derived.Test.YtmpcoclgcldclaaTC
namespace Go.Proofs.Ytmpcoclgcldclaa
open Go.RowKit
attribute [local go_sem ↓] Go.wp_at_zero Go.wp_at_succ

theorem take_same_i {a b : List Int} {i : Nat} {x : Int} (h : a.take i = b.take i) (h1 : a[i]? = some x) (h2 : b[i]? = some x) : a.take (i + 1) = b.take (i + 1) := by rw [take_snoc h1, take_snoc h2, h]
theorem take_same_b {a b : List Bool} {i : Nat} {x : Bool} (h : a.take i = b.take i) (h1 : a[i]? = some x) (h2 : b[i]? = some x) : a.take (i + 1) = b.take (i + 1) := by rw [take_snoc h1, take_snoc h2, h]
theorem D.ext_ {a b : D} (h1 : a.K = b.K) (h2 : a.S = b.S) (h3 : a.N = b.N) (h4 : a.A = b.A) : a = b := by
  cases a; cases b; simp at h1 h2 h3 h4; simp [h1, h2, h3, h4]
set_option maxHeartbeats 8000000 in
set_option maxRecDepth 100000 in
theorem equal_any (a b : D) (An Aa Bn Ba : Option Addr) (cn ca bn ba : Nat) (w : World) (ha : DIn w a An Aa) (hb : DIn w b Bn Ba) :
    Calls Try.prog 58 #[dfaV a.K a.S An a.N.length cn Aa a.A.length ca, dfaV b.K b.S Bn b.N.length bn Ba b.A.length ba] w (Ret (.bool (decide (a = b))) w) := by
  have HA := Lib.hid ha; have HB := Lib.hid hb
  have hl1 := ha.ln; have hl2 := ha.la; have hl3 := hb.ln; have hl4 := hb.la
  have HW := Lib.hid (bel_alloc (bel_new w (.cells #[.int .i64 a.K, .int .i64 a.S, .slice An a.N.length cn, .slice Aa a.A.length ca] 25)) (.cells #[.int .i64 b.K, .int .i64 b.S, .slice Bn b.N.length bn, .slice Ba b.A.length ba] 25))
  have B1 := Lib.hid ((Blk.new w 25 #[.int .i64 a.K, .int .i64 a.S, .slice An a.N.length cn, .slice Aa a.A.length ca]).alloc (.cells #[.int .i64 b.K, .int .i64 b.S, .slice Bn b.N.length bn, .slice Ba b.A.length ba] 25))
  have B2 : Hid (Blk ((w.alloc (.cells #[.int .i64 a.K, .int .i64 a.S, .slice An a.N.length cn, .slice Aa a.A.length ca] 25)).alloc (.cells #[.int .i64 b.K, .int .i64 b.S, .slice Bn b.N.length bn, .slice Ba b.A.length ba] 25)) (w.heap.size + 1) 25 #[.int .i64 b.K, .int .i64 b.S, .slice Bn b.N.length bn, .slice Ba b.A.length ba]) := by
    have h := Blk.new (w.alloc (.cells #[.int .i64 a.K, .int .i64 a.S, .slice An a.N.length cn, .slice Aa a.A.length ca] 25)) 25 #[.int .i64 b.K, .int .i64 b.S, .slice Bn b.N.length bn, .slice Ba b.A.length ba]
    simp only [size_alloc_one] at h
    exact h
  clear ha hb
  rcases h1 : a.K != b.K with _ | _
  rotate_left 1
  · have HR : Hid (decide (a = b) = false) := decide_eq_false fun e => by rw [e] at h1; simp at h1
    go_enter Try.func58, Try.ntmps58
    go_wp2_with fail
    go_ret
    exact ⟨by rw [HR.out]; rfl, HW.out⟩
  rcases h2 : a.S != b.S with _ | _
  rotate_left 1
  · have HR : Hid (decide (a = b) = false) := decide_eq_false fun e => by rw [e] at h2; simp at h2
    go_enter Try.func58, Try.ntmps58
    go_wp2_with fail
    go_ret
    exact ⟨by rw [HR.out]; rfl, HW.out⟩
  rcases h3 : (((a.N.length : Nat) : Int) != ((b.N.length : Nat) : Int)) with _ | _
  rotate_left 1
  · have HR : Hid (decide (a = b) = false) := decide_eq_false fun e => by rw [e] at h3; simp at h3
    go_enter Try.func58, Try.ntmps58
    go_wp2_with fail
    go_ret
    exact ⟨by rw [HR.out]; rfl, HW.out⟩
  rcases h4 : (((a.A.length : Nat) : Int) != ((b.A.length : Nat) : Int)) with _ | _
  rotate_left 1
  · have HR : Hid (decide (a = b) = false) := decide_eq_false fun e => by rw [e] at h4; simp at h4
    go_enter Try.func58, Try.ntmps58
    go_wp2_with fail
    go_ret
    exact ⟨by rw [HR.out]; rfl, HW.out⟩
  have HE1 : Hid (a.K = b.K) := by simpa [Hid] using h1
  have HE2 : Hid (a.S = b.S) := by simpa [Hid] using h2
  have HE3 : Hid (a.N.length = b.N.length) := by
    have : ((a.N.length : Nat) : Int) = ((b.N.length : Nat) : Int) := by simpa using h3
    show _ = _; omega
  have HE4 : Hid (a.A.length = b.A.length) := by
    have : ((a.A.length : Nat) : Int) = ((b.A.length : Nat) : Int) := by simpa using h4
    show _ = _; omega
  go_enter Try.func58, Try.ntmps58
  go_wp2_with fail
  go_loopw [5, 40] (fun _ i wr => ∃ k : Nat, k ≤ a.N.length ∧ i = .int .i64 k ∧ Hid (a.N.take k = b.N.take k) ∧ Hid (Blk wr w.heap.size 25 #[.int .i64 a.K, .int .i64 a.S, .slice An a.N.length cn, .slice Aa a.A.length ca]) ∧ Hid (Blk wr (w.heap.size + 1) 25 #[.int .i64 b.K, .int .i64 b.S, .slice Bn b.N.length bn, .slice Ba b.A.length ba]) ∧ Hid (Below w.heap.size w wr)) (fun _ i _ => a.N.length - (intOf i).toNat)
  case atStart => exact ⟨0, Nat.zero_le _, rfl, rfl, B1, B2, HW⟩
  case round =>
    clear B1 B2 HW
    obtain ⟨k, hk, rfl, HT, B1, B2, HW⟩ := hrel
    obtain ⟨⟨a0, a1, a2, a3⟩, _⟩ := blk4 B1.out
    obtain ⟨⟨b0, b1, b2, b3⟩, _⟩ := blk4 B2.out
    have hlt2 : w.heap.size + 1 < wr.heap.size := B2.out.lt
    by_cases hlt : k < a.N.length
    · obtain ⟨ga, oa, x, rfl, hga, hca, hx⟩ := (HA.out.rn.below HW.out).int_at hlt
      obtain ⟨gb, ob, y, rfl, hgb, hcb, hy⟩ := (HB.out.rn.below HW.out).int_at (k := k) (by rw [← HE3.out]; exact hlt)
      have hltb : k < b.N.length := by rw [← HE3.out]; exact hlt
      have HX := Lib.hid hx; have HY := Lib.hid hy
      have hs := HW.out.size
      have hga' : ga < wr.heap.size := by omega
      have hgb' : gb < wr.heap.size := by omega
      clear hx hy
      by_cases hxy : x = y
      · subst hxy
        have HN : Hid (a.N.take (k + 1) = b.N.take (k + 1)) := take_same_i HT.out HX.out HY.out
        go_wp2_with fail
        go_quiet (fail)
        have B1' := Lib.hid (B1.out.drewN nq); have B2' := Lib.hid (B2.out.drewN nq)
        go_wp2_with fail
        go_roundw
        case rel => exact ⟨k + 1, by omega, by go_num, HN, B1', B2', bel_drewN HW.out nq⟩
        case measure => simp [intOf]; omega
      · have hne : (x != y) = true := by simpa using hxy
        have HR : Hid (decide (a = b) = false) := decide_eq_false fun e => by
          have h3 := HX.out
          have h4 := HY.out
          rw [e, h4] at h3
          exact hxy (Option.some.inj h3).symm
        clear hxy
        go_wp2_with fail
        go_quiet (fail)
        go_wp2_with fail
        go_ret
        exact ⟨by rw [HR.out]; rfl, bel_drewN HW.out nq⟩
    · have HNN : Hid (a.N = b.N) := by
        have h := HT.out
        rwa [List.take_of_length_le (by omega), List.take_of_length_le (by rw [← HE3.out]; omega)] at h
      go_wp2_with fail
      clear a0 a1 a2 a3 b0 b1 b2 b3 hlt2
      go_loopw [6, 58] (fun _ i wr => ∃ k : Nat, k ≤ a.A.length ∧ i = .int .i64 k ∧ Hid (a.A.take k = b.A.take k) ∧ Hid (Blk wr w.heap.size 25 #[.int .i64 a.K, .int .i64 a.S, .slice An a.N.length cn, .slice Aa a.A.length ca]) ∧ Hid (Blk wr (w.heap.size + 1) 25 #[.int .i64 b.K, .int .i64 b.S, .slice Bn b.N.length bn, .slice Ba b.A.length ba]) ∧ Hid (Below w.heap.size w wr)) (fun _ i _ => a.A.length - (intOf i).toNat)
      case atStart => exact ⟨0, Nat.zero_le _, rfl, rfl, B1, B2, HW⟩
      case round =>
        clear B1 B2 HW HT
        obtain ⟨k, hk, rfl, HT, B1, B2, HW⟩ := hrel
        obtain ⟨⟨a0, a1, a2, a3⟩, _⟩ := blk4 B1.out
        obtain ⟨⟨b0, b1, b2, b3⟩, _⟩ := blk4 B2.out
        have hlt2 : w.heap.size + 1 < wr.heap.size := B2.out.lt
        by_cases hlt : k < a.A.length
        · obtain ⟨ga, oa, x, rfl, hga, hca, hx⟩ := (HA.out.ra.below HW.out).bool_at hlt
          obtain ⟨gb, ob, y, rfl, hgb, hcb, hy⟩ := (HB.out.ra.below HW.out).bool_at (k := k) (by rw [← HE4.out]; exact hlt)
          have hltb : k < b.A.length := by rw [← HE4.out]; exact hlt
          have HX := Lib.hid hx; have HY := Lib.hid hy
          have hs := HW.out.size
          have hga' : ga < wr.heap.size := by omega
          have hgb' : gb < wr.heap.size := by omega
          clear hx hy
          by_cases hxy : x = y
          · subst hxy
            have HN : Hid (a.A.take (k + 1) = b.A.take (k + 1)) := take_same_b HT.out HX.out HY.out
            have heq : (x != x) = false := by simp
            go_wp2_with fail
            go_quiet (fail)
            have B1' := Lib.hid (B1.out.drewN nq); have B2' := Lib.hid (B2.out.drewN nq)
            go_wp2_with fail
            go_roundw
            case rel => exact ⟨k + 1, by omega, by go_num, HN, B1', B2', bel_drewN HW.out nq⟩
            case measure => simp [intOf]; omega
          · have HR : Hid (decide (a = b) = false) := decide_eq_false fun e => by
              have h3 := HX.out
              have h4 := HY.out
              rw [e, h4] at h3
              exact hxy (Option.some.inj h3).symm
            have hy : y = !x := by cases x <;> cases y <;> first | rfl | exact absurd rfl hxy
            subst hy
            clear hxy HX HY
            cases x
            all_goals
              go_wp2_with fail
              go_quiet (fail)
              go_wp2_with fail
              go_ret
              exact ⟨by rw [HR.out]; rfl, bel_drewN HW.out nq⟩
        · have HR : Hid (decide (a = b) = true) := decide_eq_true (by
            have h := HT.out
            rw [List.take_of_length_le (by omega), List.take_of_length_le (by rw [← HE4.out]; omega)] at h
            exact D.ext_ HE1.out HE2.out HNN.out h)
          go_wp2_with fail
          go_ret
          exact ⟨by rw [HR.out]; rfl, HW.out⟩
end Go.Proofs.Ytmpcoclgcldclaa
