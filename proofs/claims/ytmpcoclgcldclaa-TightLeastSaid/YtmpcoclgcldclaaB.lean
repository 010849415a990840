/- The walks of dfa.Right. -/
import Derived.Test.YtmpcoclgcldclaaA
import Derived.Test.YtmpcoclgcldclaaP
import Derived.Shelf.Abstract
namespace Go.Proofs.Ytmpcoclgcldclaa
open Go.RowKit

theorem Try.enters80 : ∀ args w, (callFunc 80 args).run Try.prog w = .ok (.enter 80 args) w := enters_of Try.func80 (by kernel_rfl) rfl

/-- the literal in dfa.Right: is a number none of n states? -/
theorem right_lit (n : Nat) (a : Addr) (w : World) (x : Int) (hc : w.cell? a = some (.int .i64 n)) :
    Calls Try.prog 80 #[.int .i64 x, .pointer (some a)] w fun e w' => e = .returned (.bool (outB n x)) ∧ w = w' := by
  by_cases h : x < 0
  · go_enter Try.func80, Try.ntmps80
    go_wp2
    go_ret
    exact ⟨by simp [outB, h], rfl⟩
  · have h' : 0 ≤ x := by omega
    go_enter Try.func80, Try.ntmps80
    go_wp2
    go_ret
    refine ⟨?_, rfl⟩
    have : outB n x = decide ((n : Int) ≤ x) := by unfold outB; congr 1; simp; omega
    rw [this]; rfl


/-- an automaton as a value -/
abbrev dfaV (K S : Int) (An : Option Addr) (nn cn : Nat) (Aa : Option Addr) (na ca : Nat) : Value :=
  .agg #[.int .i64 K, .int .i64 S, .slice An nn cn, .slice Aa na ca]

set_option maxHeartbeats 1000000 in
set_option maxRecDepth 100000 in
theorem right_any (d : D) (An Aa : Option Addr) (cn ca : Nat) (w : World)
    (hn2 : d.N.length ≤ 9223372036854775807) (ha2 : d.A.length ≤ 9223372036854775807) (hr : Rd w w.heap.size An (d.N.map (Value.int .i64))) :
    Calls Try.prog 27 #[dfaV d.K d.S An d.N.length cn Aa d.A.length ca] w fun e w' => e = .returned (.bool d.right) ∧ Below w.heap.size w w' := by
  have HR := Lib.hid hr; clear hr
  have hmf : ∀ (fn : Fn) (first cap : Array Value) (w : World), (Instr.makeFunc fn first cap).run Try.prog w = .ok (.func fn first cap) w := fun _ _ _ _ => rfl
  obtain ⟨K, S, N, A⟩ := d
  have hd : (D.mk K S N A).Ok ↔ 1 ≤ K ∧ K ≤ 512 ∧ 1 ≤ A.length ∧ A.length ≤ 65536 ∧ (N.length : Int) = A.length * K ∧ 0 ≤ S ∧ S < A.length ∧ ∀ s ∈ N, 0 ≤ s ∧ s < A.length := Iff.rfl
  have HD := Lib.hid hd
  clear hd
  show Calls Try.prog 27 #[dfaV K S An N.length cn Aa A.length ca] w fun e w' => e = .returned (.bool (D.mk K S N A).right) ∧ Below w.heap.size w w'
  replace hn2 : N.length ≤ 9223372036854775807 := hn2
  replace ha2 : A.length ≤ 9223372036854775807 := ha2
  by_cases h1 : K < 1
  · have hf := D.right_false.2 fun h => by have := HD.out.1 h; omega
    rw [hf]
    clear hf
    go_enter Try.func27, Try.ntmps27
    go_wp2
    go_ret
    exact ⟨rfl, (((Below.refl _ _).alloc (Nat.le_refl _) _).alloc (by simp) _)⟩
  by_cases h2 : 512 < K
  · have hf := D.right_false.2 fun h => by have := HD.out.1 h; omega
    rw [hf]
    clear hf
    go_enter Try.func27, Try.ntmps27
    go_wp2
    go_ret
    exact ⟨rfl, (((Below.refl _ _).alloc (Nat.le_refl _) _).alloc (by simp) _)⟩
  by_cases h3 : A.length < 1
  · have hf := D.right_false.2 fun h => by have := HD.out.1 h; omega
    rw [hf]
    clear hf
    go_enter Try.func27, Try.ntmps27
    go_wp2
    go_ret
    exact ⟨rfl, (((Below.refl _ _).alloc (Nat.le_refl _) _).alloc (by simp) _)⟩
  by_cases h4 : 65536 < A.length
  · have hf := D.right_false.2 fun h => by have := HD.out.1 h; omega
    rw [hf]
    clear hf
    go_enter Try.func27, Try.ntmps27
    go_wp2
    go_ret
    exact ⟨rfl, (((Below.refl _ _).alloc (Nat.le_refl _) _).alloc (by simp) _)⟩
  have hm : 0 ≤ (A.length : Int) * K ∧ (A.length : Int) * K ≤ 33554432 := by
    constructor
    · exact Int.mul_nonneg (by omega) (by omega)
    · exact Int.le_trans (Int.mul_le_mul (show (A.length : Int) ≤ 65536 by omega) (show K ≤ 512 by omega) (by omega) (by omega)) (by decide)
  obtain ⟨hm1, hm2⟩ := hm
  by_cases h5 : ¬ (N.length : Int) = A.length * K
  · have h5' : ((N.length : Int) != A.length * K) = true := by simpa using h5
    have hf := D.right_false.2 fun h => by exact h5 (HD.out.1 h).2.2.2.2.1
    rw [hf]
    clear hf h5
    go_enter Try.func27, Try.ntmps27
    go_wp2
    go_ret
    exact ⟨rfl, (((Below.refl _ _).alloc (Nat.le_refl _) _).alloc (by simp) _)⟩
  have h5' : ((N.length : Int) != A.length * K) = false := by simpa using h5
  have H5 := Lib.hid (Decidable.not_not.1 h5)
  clear h5
  by_cases h6 : S < 0
  · have hf := D.right_false.2 fun h => by have := HD.out.1 h; omega
    rw [hf]
    clear hf
    go_enter Try.func27, Try.ntmps27
    go_wp2
    go_ret
    exact ⟨rfl, (((Below.refl _ _).alloc (Nat.le_refl _) _).alloc (by simp) _)⟩
  by_cases h7 : (A.length : Int) ≤ S
  · have hf := D.right_false.2 fun h => by have := HD.out.1 h; omega
    rw [hf]
    clear hf
    go_enter Try.func27, Try.ntmps27
    go_wp2
    go_ret
    exact ⟨rfl, (((Below.refl _ _).alloc (Nat.le_refl _) _).alloc (by simp) _)⟩
  · have hf : (D.mk K S N A).right = !(N.any (outB A.length)) := by
      cases h : N.any (outB A.length)
      · rw [outB_any] at h
        exact D.right_true.2 (HD.out.2 ⟨by omega, by omega, by omega, by omega, H5.out, by omega, by omega, h⟩)
      · refine D.right_false.2 fun h' => ?_
        have := outB_any.2 (HD.out.1 h').2.2.2.2.2.2.2
        rw [h] at this
        cases this
    rw [hf]
    clear hf
    have hcont := fun (W : World) (a : Addr) (hR : Rd W w.heap.size An (N.map (Value.int .i64))) (hc : W.cell? a = some (.int .i64 A.length)) =>
      containsFunc_any 80 #[.pointer (some a)] (outB A.length) W w.heap.size An cn N hn2 hR (fun x _ => right_lit A.length a W x hc) Try.enters80
    have HC := Lib.hid hcont
    clear hcont
    go_enter Try.func27, Try.ntmps27
    go_wp2_with fail
    refine (HC.out _ _ ?_ ?_).mono ?_
    · exact (HR.out.alloc (Nat.le_refl _) _).alloc (by simp) _
    · simp
    rintro e w' ⟨rfl, rfl⟩
    go_wp2_with fail
    go_ret
    exact ⟨rfl, (((Below.refl _ _).alloc (Nat.le_refl _) _).alloc (by simp) _)⟩
end Go.Proofs.Ytmpcoclgcldclaa
