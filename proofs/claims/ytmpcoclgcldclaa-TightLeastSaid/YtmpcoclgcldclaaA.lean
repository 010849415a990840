/- The walks of slices.IndexFunc and slices.ContainsFunc at []int, with any predicate that only reads. -/
import Derived.Test.YtmpcoclgcldclaaMem
namespace Go.Proofs.Ytmpcoclgcldclaa
open Go.RowKit

/-- the function value g with what it captured answers p x, and leaves the world alone -/
def Preds (g : FuncId) (cap : Array Value) (p : Int → Bool) (w : World) (xs : List Int) : Prop :=
  ∀ x ∈ xs, Calls Try.prog g (#[.int .i64 x] ++ cap) w fun e w' => e = .returned (.bool (p x)) ∧ w = w'

/-- the first place of which p holds -/
def idxP (p : Int → Bool) (xs : List Int) : Int := if xs.any p then ((xs.findIdx p : Nat) : Int) else -1

theorem idxP_hit {p : Int → Bool} {xs : List Int} {k : Nat} {x : Int} (hn : (xs.take k).any p = false) (hx : xs[k]? = some x) (hp : p x = true) : idxP p xs = k := by
  obtain ⟨hk, hxe⟩ := List.getElem?_eq_some_iff.1 hx
  have ha : xs.any p = true := List.any_eq_true.2 ⟨x, List.mem_of_getElem? hx, hp⟩
  rw [idxP, if_pos ha]
  have : xs.findIdx p = k := by
    rw [List.findIdx_eq hk]
    refine ⟨by rw [hxe]; exact hp, fun j hj => ?_⟩
    have := List.any_eq_false.1 hn (xs[j]'(by omega)) (by
      rw [List.mem_take_iff_getElem]
      exact ⟨j, by omega, rfl⟩)
    simpa using this
  rw [this]
theorem idxP_none {p : Int → Bool} {xs : List Int} {k : Nat} (hn : (xs.take k).any p = false) (hk : xs.length ≤ k) : idxP p xs = -1 := by
  rw [List.take_of_length_le hk] at hn
  rw [idxP, if_neg (by simp [hn])]
theorem idxP_geq (p : Int → Bool) (xs : List Int) : decide (0 ≤ idxP p xs) = xs.any p := by
  unfold idxP
  cases h : xs.any p <;> simp <;> omega
theorem take_any_succ {p : Int → Bool} {xs : List Int} {k : Nat} {x : Int} (hn : (xs.take k).any p = false) (hx : xs[k]? = some x) (hp : p x = false) : (xs.take (k + 1)).any p = false := by
  rw [List.take_add_one, hx, List.any_append, hn]
  simp [hp]

set_option maxHeartbeats 1000000 in
set_option maxRecDepth 100000 in
theorem indexFunc_any (g : FuncId) (cap : Array Value) (p : Int → Bool) (w : World) (B : Nat) (A : Option Addr) (c : Nat) (xs : List Int)
    (hn2 : xs.length ≤ 9223372036854775807) (hr : Rd w B A (xs.map (Value.int .i64))) (hp : Preds g cap p w xs)
    (eg : ∀ args w, (callFunc g args).run Try.prog w = .ok (.enter g args) w) :
    Calls Try.prog 112 #[.slice A xs.length c, .func (.func g) #[] cap] w fun e w' => e = .returned (.int .i64 (idxP p xs)) ∧ w = w' := by
  have HP := Lib.hid hp; clear hp
  have HR := Lib.hid hr; clear hr
  go_enter Try.func112, Try.ntmps112
  go_wp2_with fail
  go_loop [5, 8] (fun _ i => ∃ k : Nat, k ≤ xs.length ∧ i = .int .i64 k ∧ (xs.take k).any p = false) (fun _ i => xs.length - (intOf i).toNat)
  case atStart => exact ⟨0, Nat.zero_le _, rfl, rfl⟩
  case round =>
    obtain ⟨k, hk, rfl, hnone⟩ := hrel
    have HN := Lib.hid hnone; clear hnone
    by_cases hlt : k < xs.length
    · obtain ⟨b, o, x, rfl, hb, hc, hx⟩ := HR.out.int_at hlt
      have hcall := HP.out x (List.mem_of_getElem? hx)
      have HC := Lib.hid hcall; clear hcall
      have HX := Lib.hid hx; clear hx
      go_wp2_with fail
      refine (HC.out).mono ?_
      rintro e w' ⟨rfl, rfl⟩
      generalize hpx : p x = q
      have HPX := Lib.hid hpx; clear hpx
      cases q
      · go_wp2_with fail
        go_round
        case rel => exact ⟨k + 1, by omega, by go_num, take_any_succ HN.out HX.out HPX.out⟩
        case measure => simp [intOf]; omega
      · go_wp2_with fail
        go_ret
        exact ⟨by rw [idxP_hit HN.out HX.out HPX.out]; rfl, rfl⟩
    · go_wp2_with fail
      go_ret
      exact ⟨by rw [idxP_none (k := k) HN.out (by omega)]; rfl, rfl⟩

set_option maxHeartbeats 1000000 in
set_option maxRecDepth 100000 in
theorem containsFunc_any (g : FuncId) (cap : Array Value) (p : Int → Bool) (w : World) (B : Nat) (A : Option Addr) (c : Nat) (xs : List Int)
    (hn2 : xs.length ≤ 9223372036854775807) (hr : Rd w B A (xs.map (Value.int .i64))) (hp : Preds g cap p w xs)
    (eg : ∀ args w, (callFunc g args).run Try.prog w = .ok (.enter g args) w) :
    Calls Try.prog 79 #[.slice A xs.length c, .func (.func g) #[] cap] w fun e w' => e = .returned (.bool (xs.any p)) ∧ w = w' := by
  have h1 := indexFunc_any g cap p w B A c xs hn2 hr hp eg
  have H1 := Lib.hid h1
  clear h1 hr hp eg
  go_enter Try.func79, Try.ntmps79
  go_wp2_with fail
  refine H1.out.mono ?_
  rintro e w' ⟨rfl, rfl⟩
  go_wp2_with fail
  go_ret
  exact ⟨by rw [idxP_geq]; rfl, rfl⟩
end Go.Proofs.Ytmpcoclgcldclaa
