/- The walks of layer 17's Smaller and layer 14's Same. -/
import Derived.Test.YtmpcoclgcldclaaHG
namespace Go.Proofs.Ytmpcoclgcldclaa
open Go.RowKit
attribute [local go_sem ↓] Go.wp_at_zero Go.wp_at_succ

theorem smB_at : ∀ {a b : List Int} {i : Nat} {x y : Int}, a.take i = b.take i → a[i]? = some x → b[i]? = some y → x ≠ y → smB a b = decide (x < y)
  | [], _, _, _, _, _, h, _, _ => by simp at h
  | _ :: _, [], _, _, _, _, _, h, _ => by simp at h
  | u :: a, v :: b, 0, x, y, _, h1, h2, hne => by
    have e1 : u = x := by simpa using h1
    have e2 : v = y := by simpa using h2
    subst e1 e2
    unfold smB
    rw [if_neg hne]
  | u :: a, v :: b, i + 1, x, y, h, h1, h2, hne => by
    simp only [List.take_succ_cons, List.cons.injEq] at h
    obtain ⟨rfl, h⟩ := h
    unfold smB
    rw [if_pos rfl]
    exact smB_at h (by simpa using h1) (by simpa using h2) hne
theorem smB_end : ∀ {a b : List Int} {i : Nat}, a.take i = b.take i → (a.length ≤ i ∨ b.length ≤ i) → smB a b = false
  | [], _, _, _, _ => by simp [smB]
  | _ :: _, [], _, _, _ => by simp [smB]
  | u :: a, v :: b, 0, _, h => by simp at h
  | u :: a, v :: b, i + 1, h, h' => by
    simp only [List.take_succ_cons, List.cons.injEq] at h
    obtain ⟨rfl, h⟩ := h
    unfold smB
    rw [if_pos rfl]
    exact smB_end h (by simp at h'; omega)
theorem take_same {a b : List Int} {i : Nat} {x : Int} (h : a.take i = b.take i) (h1 : a[i]? = some x) (h2 : b[i]? = some x) : a.take (i + 1) = b.take (i + 1) := by rw [take_snoc h1, take_snoc h2, h]
set_option maxHeartbeats 2000000 in
set_option maxRecDepth 100000 in
theorem smaller_any (A B : Option Addr) (c c2 : Nat) (a b : List Int) (w : World) (ha : WIn w a A) (hb : WIn w b B) : Calls Try.prog 54 #[.slice A a.length c, .slice B b.length c2] w (Ret (.bool (smB a b)) w) := by
  have HLa := ha.l
  have HLb := hb.l
  have HA := Lib.hid ha; have HB := Lib.hid hb
  clear ha hb
  go_enter Try.func54, Try.ntmps54
  go_wp2_with fail
  go_loopw [5] (fun i wr => ∃ k : Nat, k ≤ a.length ∧ k ≤ b.length ∧ i = .int .i64 k ∧ Hid (a.take k = b.take k) ∧ Hid (Below w.heap.size w wr)) (fun i _ => a.length - (intOf i).toNat)
  case atStart => exact ⟨0, Nat.zero_le _, Nat.zero_le _, rfl, rfl, Below.refl _ _⟩
  case round =>
    obtain ⟨k, hka, hkb, rfl, HT, HW⟩ := hrel
    by_cases h1 : k < a.length
    · by_cases h2 : k < b.length
      · obtain ⟨ga, oa, x, rfl, hga, hca, hx⟩ := (HA.out.r.below HW.out).int_at h1
        obtain ⟨gb, ob, y, rfl, hgb, hcb, hy⟩ := (HB.out.r.below HW.out).int_at h2
        have HX := Lib.hid hx; have HY := Lib.hid hy
        have hs := HW.out.size
        have hga' : ga < wr.heap.size := by omega
        have hgb' : gb < wr.heap.size := by omega
        clear hx hy
        by_cases hxy : x = y
        · subst hxy
          have HN : Hid (a.take (k + 1) = b.take (k + 1)) := take_same HT.out HX.out HY.out
          go_wp2_with fail
          go_region
          go_wp2_with fail
          go_roundw
          case rel => exact ⟨k + 1, by omega, by omega, by go_num, HN, HW.out.drew⟩
          case measure => simp [intOf]; omega
        · have hne : (x != y) = true := by simpa using hxy
          have HR : Hid (smB a b = decide (x < y)) := smB_at HT.out HX.out HY.out hxy
          clear hxy
          go_wp2_with fail
          go_region
          go_wp2_with fail
          go_region
          go_wp2_with fail
          go_ret
          exact ⟨by rw [HR.out]; rfl, HW.out.drew.drew⟩
      · have HR : Hid (smB a b = false) := smB_end HT.out (.inr (by omega))
        go_wp2_with fail
        go_ret
        exact ⟨by rw [HR.out]; rfl, HW.out⟩
    · have HR : Hid (smB a b = false) := smB_end HT.out (.inl (by omega))
      go_wp2_with fail
      go_ret
      exact ⟨by rw [HR.out]; rfl, HW.out⟩
set_option maxHeartbeats 2000000 in
set_option maxRecDepth 100000 in
theorem same_any (A B : Option Addr) (c c2 : Nat) (a b : List Int) (w : World) (ha : WIn w a A) (hb : WIn w b B) : Calls Try.prog 51 #[.slice A a.length c, .slice B b.length c2] w (Ret (.bool (decide (a = b))) w) := by
  have HLa := ha.l
  have HLb := hb.l
  have HA := Lib.hid ha; have HB := Lib.hid hb
  clear ha hb
  by_cases hl : a.length = b.length
  · have hl' : (((a.length : Nat) : Int) != ((b.length : Nat) : Int)) = false := by rw [hl]; simp
    have HL := Lib.hid hl
    clear hl
    go_enter Try.func51, Try.ntmps51
    go_wp2_with fail
    go_loopw [5, 13] (fun _ i wr => ∃ k : Nat, k ≤ a.length ∧ i = .int .i64 k ∧ Hid (a.take k = b.take k) ∧ Hid (Below w.heap.size w wr)) (fun _ i _ => a.length - (intOf i).toNat)
    case atStart => exact ⟨0, Nat.zero_le _, rfl, rfl, Below.refl _ _⟩
    case round =>
      obtain ⟨k, hka, rfl, HT, HW⟩ := hrel
      by_cases h1 : k < a.length
      · have h2 : k < b.length := by rw [← HL.out]; exact h1
        obtain ⟨ga, oa, x, rfl, hga, hca, hx⟩ := (HA.out.r.below HW.out).int_at h1
        obtain ⟨gb, ob, y, rfl, hgb, hcb, hy⟩ := (HB.out.r.below HW.out).int_at h2
        have HX := Lib.hid hx; have HY := Lib.hid hy
        have hs := HW.out.size
        have hga' : ga < wr.heap.size := by omega
        have hgb' : gb < wr.heap.size := by omega
        clear hx hy
        by_cases hxy : x = y
        · subst hxy
          have HN : Hid (a.take (k + 1) = b.take (k + 1)) := take_same HT.out HX.out HY.out
          go_wp2_with fail
          go_region
          go_wp2_with fail
          go_roundw
          case rel => exact ⟨k + 1, by omega, by go_num, HN, HW.out.drew⟩
          case measure => simp [intOf]; omega
        · have hne : (x != y) = true := by simpa using hxy
          have HR : Hid (decide (a = b) = false) := decide_eq_false fun e => by
            have h3 := HX.out
            have h4 := HY.out
            rw [e, h4] at h3
            exact hxy (Option.some.inj h3).symm
          clear hxy
          go_wp2_with fail
          go_region
          go_wp2_with fail
          go_ret
          exact ⟨by rw [HR.out]; rfl, HW.out.drew⟩
      · have HR : Hid (decide (a = b) = true) := decide_eq_true (by
          have h := HT.out
          rwa [List.take_of_length_le (by omega), List.take_of_length_le (by rw [← HL.out]; omega)] at h)
        go_wp2_with fail
        go_ret
        exact ⟨by rw [HR.out]; rfl, HW.out⟩
  · have hl' : (((a.length : Nat) : Int) != ((b.length : Nat) : Int)) = true := by
      have : ((a.length : Nat) : Int) ≠ ((b.length : Nat) : Int) := by omega
      simpa using this
    have HR : Hid (decide (a = b) = false) := decide_eq_false fun e => hl (by rw [e])
    clear hl
    go_enter Try.func51, Try.ntmps51
    go_wp2_with fail
    go_ret
    exact ⟨by rw [HR.out]; rfl, Below.refl _ _⟩
end Go.Proofs.Ytmpcoclgcldclaa
