/- Words for the walks of the laws: automata that stand in memory, what each callee answers of them. -/
import Derived.Test.YtmpcoclgcldclaaV
namespace Go.Proofs.Ytmpcoclgcldclaa
open Go.RowKit

/-- an automaton's rows can be read -/
structure DIn (w : World) (d : D) (An Aa : Option Addr) : Prop where
  ln : d.N.length ≤ 9223372036854775807
  la : d.A.length ≤ 9223372036854775807
  rn : Rd w w.heap.size An (d.N.map (Value.int .i64))
  ra : Rd w w.heap.size Aa (d.A.map Value.bool)
/-- a word that can be read -/
structure WIn (w : World) (ws : List Int) (A : Option Addr) : Prop where
  l : ws.length ≤ 9223372036854775807
  r : Rd w w.heap.size A (ws.map (Value.int .i64))
/-- a variable that holds an automaton -/
structure HasD (w : World) (g : Nat) (d : D) (An : Option Addr) (cn : Nat) (Aa : Option Addr) (ca : Nat) : Prop where
  box : BlkD w g d An cn Aa ca
  din : DIn w d An Aa
/-- the value v comes back, and nothing has turned that was there -/
def Ret (v : Value) (w : World) (e : Ending) (w' : World) : Prop := e = .returned v ∧ Below w.heap.size w w'
section
variable {w w' w1 w2 : World} {d : D} {ws : List Int} {An Aa A : Option Addr} {cn ca g : Nat}
theorem bel_new (w : World) (o : Obj) : Below w.heap.size w (w.alloc o) := (Below.refl _ _).alloc (Nat.le_refl _) o
theorem bel_alloc (h : Below w.heap.size w w1) (o : Obj) : Below w.heap.size w (w1.alloc o) := h.alloc h.size o
theorem bel_step (h : Below w.heap.size w w1) (hb : Below w1.heap.size w1 w2) : Below w.heap.size w w2 := h.trans (hb.mono h.size)
theorem DIn.up (h : DIn w d An Aa) (hb : Below w.heap.size w w') : DIn w' d An Aa := ⟨h.ln, h.la, h.rn.up (Nat.le_refl _) hb, h.ra.up (Nat.le_refl _) hb⟩
theorem DIn.alloc (h : DIn w d An Aa) (o : Obj) : DIn (w.alloc o) d An Aa := h.up (bel_new w o)
theorem DIn.drew (h : DIn w d An Aa) : DIn w.drew d An Aa := ⟨h.ln, h.la, h.rn, h.ra⟩
theorem DIn.drewN (h : DIn w d An Aa) (n : Nat) : DIn (w.drewN n) d An Aa := ⟨h.ln, h.la, h.rn, h.ra⟩
theorem WIn.up (h : WIn w ws A) (hb : Below w.heap.size w w') : WIn w' ws A := ⟨h.l, h.r.up (Nat.le_refl _) hb⟩
theorem WIn.alloc (h : WIn w ws A) (o : Obj) : WIn (w.alloc o) ws A := h.up (bel_new w o)
theorem WIn.drew (h : WIn w ws A) : WIn w.drew ws A := ⟨h.l, h.r⟩
theorem HasD.up (h : HasD w g d An cn Aa ca) (hb : Below w.heap.size w w') : HasD w' g d An cn Aa ca := ⟨blk_below h.box hb, h.din.up hb⟩
theorem HasD.alloc (h : HasD w g d An cn Aa ca) (o : Obj) : HasD (w.alloc o) g d An cn Aa ca := h.up (bel_new w o)
theorem HasD.drew (h : HasD w g d An cn Aa ca) : HasD w.drew g d An cn Aa ca := ⟨h.box, h.din.drew⟩
theorem HasD.new (h : DIn w d An Aa) (cn ca : Nat) : HasD (w.alloc (.cells #[.int .i64 d.K, .int .i64 d.S, .slice An d.N.length cn, .slice Aa d.A.length ca] 25)) w.heap.size d An cn Aa ca := ⟨Blk.new _ _ _, h.alloc _⟩
theorem HasD.newAt (h : DIn w d An Aa) (cn ca : Nat) (hg : g = w.heap.size) : HasD (w.alloc (.cells #[.int .i64 d.K, .int .i64 d.S, .slice An d.N.length cn, .slice Aa d.A.length ca] 25)) g d An cn Aa ca := by
  subst hg; exact HasD.new h cn ca
theorem HasD.lt (h : HasD w g d An cn Aa ca) : g < w.heap.size := h.box.lt
theorem HasD.cells (h : HasD w g d An cn Aa ca) : w.cell? ⟨g, 0, none⟩ = some (.int .i64 d.K) ∧ w.cell? ⟨g, 1, none⟩ = some (.int .i64 d.S) ∧ w.cell? ⟨g, 2, none⟩ = some (.slice An d.N.length cn) ∧ w.cell? ⟨g, 3, none⟩ = some (.slice Aa d.A.length ca) := (blk4 h.box).1
/-- an automaton that a call has made -/
theorem DfaR.din {base : Nat} {v : Value} (h : DfaR w base v d) (hl : d.N.length ≤ 9223372036854775807 ∧ d.A.length ≤ 9223372036854775807) :
    ∃ AN cN AA cA, v = dfaV d.K d.S AN d.N.length cN AA d.A.length cA ∧ DIn w d AN AA := by
  obtain ⟨AN, cN, AA, cA, e, h1, h2⟩ := h
  exact ⟨AN, cN, AA, cA, e, hl.1, hl.2, Rd.of_own h1 (Nat.le_refl _), Rd.of_own h2 (Nat.le_refl _)⟩
theorem right_c (h : DIn w d An Aa) (cn ca : Nat) : Calls Try.prog 27 #[dfaV d.K d.S An d.N.length cn Aa d.A.length ca] w (Ret (.bool d.right) w) := right_any d An Aa cn ca w h.ln h.la h.rn
theorem refRight_c (h : DIn w d An Aa) (cn ca : Nat) : Calls Try.prog 28 #[dfaV d.K d.S An d.N.length cn Aa d.A.length ca] w (Ret (.bool d.right) w) := refRight_any d An Aa cn ca w h.ln h.la h.rn
theorem tells_c (h : DIn w d An Aa) (hw : WIn w ws A) (cn ca cw : Nat) : Calls Try.prog 29 #[dfaV d.K d.S An d.N.length cn Aa d.A.length ca, .slice A ws.length cw] w (Ret (.bool (d.tells ws)) w) :=
  tells_any d An Aa A cn ca cw ws w h.ln h.la hw.l h.rn h.ra hw.r
theorem refTells_c (h : DIn w d An Aa) (hw : WIn w ws A) (cn ca cw : Nat) : Calls Try.prog 30 #[dfaV d.K d.S An d.N.length cn Aa d.A.length ca, .slice A ws.length cw] w (Ret (.bool (d.tells ws)) w) :=
  refTells_any d An Aa A cn ca cw ws w h.ln h.la hw.l h.rn h.ra hw.r
theorem alive_c (w : World) : Calls Try.prog 25 #[] w (Ret (.bool true) w) := alive_any w
theorem great_c (d : D) (An Aa : Option Addr) (cn ca : Nat) (w : World) : Calls Try.prog 26 #[dfaV d.K d.S An d.N.length cn Aa d.A.length ca] w (Ret (.bool d.great) w) := great_any d An Aa cn ca w
theorem zero_c (d : D) (An Aa : Option Addr) (cn ca : Nat) (w : World) : Calls Try.prog 34 #[dfaV d.K d.S An d.N.length cn Aa d.A.length ca] w (Ret (.bool d.zeroB) w) := zero_any d An Aa cn ca w
theorem symbols_c (k : Int) (hw : WIn w ws A) (cw : Nat) : Calls Try.prog 35 #[.int .i64 k, .slice A ws.length cw] w (Ret (.bool (symsB k ws)) w) :=
  (symbols_any k ws A cw w hw.l hw.r).mono fun e w' ⟨he, hw⟩ => ⟨he, by rw [← hw]; exact Below.refl _ _⟩
/-- what Not gives -/
def notE (d : D) : D := if d.Ok then notD d else zeroD
def okE (b : Bool) : Int := if b then 0 else 151
theorem not_c (h : DIn w d An Aa) (cn ca : Nat) : Calls Try.prog 37 #[dfaV d.K d.S An d.N.length cn Aa d.A.length ca] w (Gives w (notE d) (okE d.right)) := by
  unfold notE okE
  by_cases hok : d.Ok
  · rw [if_pos hok, D.right_true.2 hok]
    exact not_yes d An Aa cn ca w hok h.rn h.ra
  · rw [if_neg hok, D.right_false.2 hok]
    exact not_no d An Aa cn ca w hok h.ln h.la h.rn
theorem like_c {b : D} {Bn Ba : Option Addr} (h : DIn w d An Aa) (h' : DIn w b Bn Ba) (ha : d.Ok) (hb : b.Ok) (hK : d.K = b.K) (hsz : d.A.length * b.A.length ≤ 1000000) (cn ca cn' ca' : Nat) :
    Calls Try.prog 38 #[dfaV d.K d.S An d.N.length cn Aa d.A.length ca, dfaV b.K b.S Bn b.N.length cn' Ba b.A.length ca'] w (LikeR d b w) :=
  like_any d b An Aa Bn Ba cn ca cn' ca' w ha hb hK hsz h.rn h'.rn h.ra h'.ra
theorem zeroD_zero : zeroD.zeroB = true := by decide
theorem WIn.mk_ {B : Nat} (hl : ws.length ≤ 9223372036854775807) (hr : Rd w B A (ws.map (Value.int .i64))) (hB : B ≤ w.heap.size) : WIn w ws A := ⟨hl, hr.more hB⟩
end
theorem D.great_no {d : D} (h : d.great = false) : d.A.length ≤ 12 ∧ d.N.length ≤ 100 ∧ d.K ≤ 9 := by
  have := of_decide_eq_false h
  omega
end Go.Proofs.Ytmpcoclgcldclaa
