/- The walk of dfa.chain. -/
import Derived.Test.YtmpcoclgcldclaaG
import Derived.Test.YtmpcoclgcldclaaP2
namespace Go.Proofs.Ytmpcoclgcldclaa
open Go.RowKit

theorem Try.enters113 : ∀ args w, (callFunc 113 args).run Try.prog w = .ok (.enter 113 args) w := enters_of Try.func113 (by kernel_rfl) rfl

/-- out of 0 .. k - 1 -/
def outI (k : Int) (x : Int) : Bool := decide (x < 0 ∨ k ≤ x)
theorem outI_any {k : Int} {ws : List Int} : ws.any (outI k) = !symsB k ws := by
  rw [Bool.eq_iff_iff]
  simp only [outI, symsB, List.any_eq_true, decide_eq_true_eq, Bool.not_eq_true', List.all_eq_false]
  constructor
  · rintro ⟨x, hx, h⟩; exact ⟨x, hx, by omega⟩
  · rintro ⟨x, hx, h⟩; exact ⟨x, hx, by omega⟩

theorem chain_lit (k : Int) (a : Addr) (w : World) (x : Int) (hc : w.cell? a = some (.int .i64 k)) :
    Calls Try.prog 113 #[.int .i64 x, .pointer (some a)] w fun e w' => e = .returned (.bool (outI k x)) ∧ w = w' := by
  by_cases h : x < 0
  · go_enter Try.func113, Try.ntmps113
    go_wp2
    go_ret
    exact ⟨by simp [outI, h], rfl⟩
  · have h' : 0 ≤ x := by omega
    go_enter Try.func113, Try.ntmps113
    go_wp2
    go_ret
    refine ⟨?_, rfl⟩
    have : outI k x = decide (k ≤ x) := by unfold outI; congr 1; simp; omega
    rw [this]; rfl

/-- a value that is an automaton in memory of the call's own -/
def DfaR (w : World) (base : Nat) (v : Value) (d : D) : Prop :=
  ∃ AN cN AA cA, v = dfaV d.K d.S AN d.N.length cN AA d.A.length cA ∧ w.ownsRow base 3 1 (.slice AN d.N.length cN) d.N.length (d.N.map (Value.int .i64)) ∧ w.ownsRow base 4 1 (.slice AA d.A.length cA) d.A.length (d.A.map Value.bool)
theorem DfaR.zero (w : World) (base : Nat) : DfaR w base (.agg #[.int .i64 0, .int .i64 0, .slice none 0 0, .slice none 0 0]) zeroD :=
  ⟨none, 0, none, 0, rfl, World.ownsRow_nil _ _ _ _, World.ownsRow_nil _ _ _ _⟩

set_option maxHeartbeats 1000000 in
set_option maxRecDepth 100000 in
theorem chain_no (k : Int) (ws : List Int) (Aw : Option Addr) (cw : Nat) (st : Bool) (w : World)
    (hw : ws.length ≤ 60000) (hr : Rd w w.heap.size Aw (ws.map (Value.int .i64))) (hno : ¬ (1 ≤ k ∧ k ≤ 512 ∧ symsB k ws = true)) :
    Calls Try.prog 81 #[.int .i64 k, .slice Aw ws.length cw, .bool st] w fun e w' => ∃ v, e = .returned (.tuple #[v, .int .i64 151]) ∧ DfaR w' w.heap.size v zeroD ∧ Below w.heap.size w w' := by
  have HR := Lib.hid hr; clear hr
  have hmf : ∀ (fn : Fn) (first cap : Array Value) (w : World), (Instr.makeFunc fn first cap).run Try.prog w = .ok (.func fn first cap) w := fun _ _ _ _ => rfl
  by_cases h1 : k < 1
  · clear hno
    go_enter Try.func81, Try.ntmps81
    go_wp2
    exact bodyPost_ret (v := .tuple #[.agg #[.int .i64 0, .int .i64 0, .slice none 0 0, .slice none 0 0], .int .i64 151]) (by simp [results, Try.results81, go_sem]) rfl
      ⟨_, rfl, DfaR.zero _ _, (((Below.refl _ _).alloc (Nat.le_refl _) _).alloc (by simp) _)⟩
  by_cases h2 : 512 < k
  · clear hno
    go_enter Try.func81, Try.ntmps81
    go_wp2
    exact bodyPost_ret (v := .tuple #[.agg #[.int .i64 0, .int .i64 0, .slice none 0 0, .slice none 0 0], .int .i64 151]) (by simp [results, Try.results81, go_sem]) rfl
      ⟨_, rfl, DfaR.zero _ _, (((Below.refl _ _).alloc (Nat.le_refl _) _).alloc (by simp) _)⟩
  have hany : ws.any (outI k) = true := by
    rw [outI_any]
    rcases hb : symsB k ws with _ | _
    · rfl
    · exact absurd ⟨by omega, by omega, hb⟩ hno
  have HA := Lib.hid hany; clear hany hno
  have hcont := fun (W : World) (a : Addr) (hR : Rd W W.heap.size Aw (ws.map (Value.int .i64))) (hc : W.cell? a = some (.int .i64 k)) =>
      containsFunc_any 113 #[.pointer (some a)] (outI k) W W.heap.size Aw cw ws (by omega) hR (fun x _ => chain_lit k a W x hc) Try.enters113
  have HC := Lib.hid hcont
  clear hcont
  go_enter Try.func81, Try.ntmps81
  go_wp2_with fail
  refine (HC.out _ _ ?_ ?_).mono ?_
  · exact ((HR.out.alloc (Nat.le_refl _) _).alloc (by simp) _).more (by simp; omega)
  · simp
  rintro e w' ⟨rfl, rfl⟩
  rw [HA.out]
  go_wp2
  exact bodyPost_ret (v := .tuple #[.agg #[.int .i64 0, .int .i64 0, .slice none 0 0, .slice none 0 0], .int .i64 151]) (by simp [results, Try.results81, go_sem]) rfl
      ⟨_, rfl, DfaR.zero _ _, (((Below.refl _ _).alloc (Nat.le_refl _) _).alloc (by simp) _)⟩
end Go.Proofs.Ytmpcoclgcldclaa
