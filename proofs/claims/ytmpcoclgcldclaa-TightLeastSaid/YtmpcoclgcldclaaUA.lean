/- The walks of tight's plus, of slices.Index and slices.Contains at bools, and of the closures of Same and Within. -/
import Derived.Test.YtmpcoclgcldclaaMem
import Derived.Test.YtmpcoclgcldclaaTP
import Derived.BigQuiet
namespace Go.Proofs.Ytmpcoclgcldclaa
open Go.RowKit

theorem plus_any (a b : Nat) (w : World) (ha : a ≤ 18446744073709551615) (hb : b ≤ 18446744073709551615) :
    Calls Try.prog 97 #[.int .u64 a, .int .u64 b] w fun e w' => e = .returned (.int .u64 ((min (a + b) 18446744073709551615 : Nat) : Int)) ∧ w = w' := by
  by_cases h : a + b ≤ 18446744073709551615
  · have h1 : IntKind.u64.wrap ((a : Int) + (b : Int)) = (a : Int) + b := by rw [IntKind.wrap_u64]; omega
    have h2 : decide ((a : Int) + (b : Int) < (a : Int)) = false := decide_eq_false (by omega)
    have HR : Hid (((min (a + b) 18446744073709551615 : Nat) : Int) = (a : Int) + b) := by show _ = _; omega
    clear ha hb h
    go_enter Try.func97, Try.ntmps97
    go_wp2_with fail
    go_ret
    exact ⟨by rw [HR.out]; rfl, rfl⟩
  · have h1 : IntKind.u64.wrap ((a : Int) + (b : Int)) = (a : Int) + b - 18446744073709551616 := by rw [IntKind.wrap_u64]; omega
    have h2 : decide ((a : Int) + (b : Int) - 18446744073709551616 < (a : Int)) = true := decide_eq_true (by omega)
    have HR : Hid (((min (a + b) 18446744073709551615 : Nat) : Int) = 18446744073709551615) := by show _ = _; omega
    clear ha hb h
    go_enter Try.func97, Try.ntmps97
    go_wp2_with fail
    go_ret
    exact ⟨by rw [HR.out]; rfl, rfl⟩

/-- the first place of true, or -1 -/
def IdxB (xs : List Bool) (w : World) (e : Ending) (w' : World) : Prop := ∃ i : Int, e = .returned (.int .i64 i) ∧ decide (0 ≤ i) = xs.contains true ∧ w = w'
theorem indexB_any (A : Option Addr) (c : Nat) (xs : List Bool) (w : World) (hl : xs.length ≤ 9223372036854775807) (hr : Rd w w.heap.size A (xs.map Value.bool)) :
    Calls Try.prog 121 #[.slice A xs.length c, .bool true] w (IdxB xs w) := by
  have HR := Lib.hid hr; clear hr
  go_enter Try.func121, Try.ntmps121
  go_wp2_with fail
  go_loop [5, 8] (fun _ i => ∃ k : Nat, k ≤ xs.length ∧ i = .int .i64 k ∧ Hid (∀ x ∈ xs.take k, x = false)) (fun _ i => xs.length - (intOf i).toNat)
  case atStart => exact ⟨0, Nat.zero_le _, rfl, by simp [Hid]⟩
  case round =>
    obtain ⟨k, hk, rfl, HN⟩ := hrel
    by_cases hlt : k < xs.length
    · obtain ⟨b, o, x, rfl, hb, hc, hx⟩ := HR.out.bool_at hlt
      have HX := Lib.hid hx; clear hx
      cases x
      · have HN2 : Hid (∀ x ∈ xs.take (k + 1), x = false) := fun x hx => by
          rw [List.take_add_one, HX.out] at hx
          rcases List.mem_append.1 hx with hx | hx
          · exact HN.out x hx
          · simpa using hx
        go_wp2_with fail
        go_round
        case rel => exact ⟨k + 1, by omega, by go_num, HN2⟩
        case measure => simp [intOf]; omega
      · have HY : Hid (decide ((0 : Int) ≤ (k : Int)) = xs.contains true) := by
          show _ = _
          rw [decide_eq_true (by omega)]
          exact (List.contains_iff_mem.2 (List.mem_of_getElem? HX.out)).symm
        go_wp2_with fail
        go_ret
        exact ⟨_, rfl, HY.out, rfl⟩
    · have HY : Hid (decide ((0 : Int) ≤ -1) = xs.contains true) := by
        show _ = _
        rw [decide_eq_false (by omega)]
        refine (Bool.eq_false_iff.2 fun h => ?_).symm
        have h2 := HN.out true (by rw [List.take_of_length_le (by omega)]; exact List.contains_iff_mem.1 h)
        cases h2
      go_wp2_with fail
      go_ret
      exact ⟨_, rfl, HY.out, rfl⟩
/-- the value v comes back, and the world stands -/
def RetW (v : Value) (w : World) (e : Ending) (w' : World) : Prop := e = .returned v ∧ w = w'
theorem containsB_any (A : Option Addr) (c : Nat) (xs : List Bool) (w : World) (hl : xs.length ≤ 9223372036854775807) (hr : Rd w w.heap.size A (xs.map Value.bool)) :
    Calls Try.prog 102 #[.slice A xs.length c, .bool true] w (RetW (.bool (xs.contains true)) w) := by
  have HC := Lib.hid (indexB_any A c xs w hl hr)
  clear hr
  go_enter Try.func102, Try.ntmps102
  go_wp2_with (go_at_call 121; refine HC.out.mono ?_; rintro e w' ⟨i, rfl, hi, rfl⟩; have HI := Lib.hid hi; clear hi)
  go_ret
  exact ⟨ret_bool HI.out, rfl⟩
/-- a closure of two bools -/
def FnB (g : FuncId) (f : Bool → Bool → Bool) : Prop := ∀ (x y : Bool) (w : World), Calls Try.prog g #[.bool x, .bool y] w fun e w' => e = .returned (.bool (f x y)) ∧ w = w'
theorem same_fn : FnB 100 (fun x y => x == y) := by
  intro x y w
  cases x <;> cases y <;> (go_enter Try.func100, Try.ntmps100; go_wp2_with fail; go_ret; exact ⟨rfl, rfl⟩)
theorem within_fn : FnB 101 (fun x y => y || !x) := by
  intro x y w
  cases x <;> cases y <;> (go_enter Try.func101, Try.ntmps101; go_wp2_with fail; go_ret; exact ⟨rfl, rfl⟩)
end Go.Proofs.Ytmpcoclgcldclaa
