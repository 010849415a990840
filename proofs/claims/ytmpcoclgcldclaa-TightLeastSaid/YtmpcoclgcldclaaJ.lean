/- The walks of dfa.Word, dfa.Begins, dfa.None. -/
import Derived.Test.YtmpcoclgcldclaaI
namespace Go.Proofs.Ytmpcoclgcldclaa
open Go.RowKit

theorem DfaR.form {w : World} {base : Nat} {v : Value} {d : D} (h : DfaR w base v d) : ∃ AN cN AA cA, v = dfaV d.K d.S AN d.N.length cN AA d.A.length cA := by
  obtain ⟨AN, cN, AA, cA, e, _⟩ := h
  exact ⟨AN, cN, AA, cA, e⟩
theorem DfaR.touch {w w' : World} {base base' : Nat} {v : Value} {d : D} {T : Nat → Prop} (h : DfaR w base v d) (ht : Touch T w w') (hb : base' ≤ base) (hT : ∀ j, base ≤ j → j < w.heap.size → ¬ T j) : DfaR w' base' v d := by
  obtain ⟨AN, cN, AA, cA, e, h1, h2⟩ := h
  exact ⟨AN, cN, AA, cA, e, (own_touch h1 ht fun j hj => hT j (h1.lt j hj).1 (h1.lt j hj).2).mono hb, (own_touch h2 ht fun j hj => hT j (h2.lt j hj).1 (h2.lt j hj).2).mono hb⟩
/-- what chain gives, at whatever numbers -/
def chOk (k : Int) (ws : List Int) : Bool := decide (1 ≤ k ∧ k ≤ 512) && symsB k ws
def chE (k : Int) (ws : List Int) : Int := if chOk k ws then 0 else 151
def chD (k : Int) (ws : List Int) (st : Bool) : D := if chOk k ws then chainD k.toNat ws st else zeroD

/-- a call that gives an automaton and an error, in new memory -/
def Gives (w : World) (d : D) (er : Int) (e : Ending) (w' : World) : Prop := ∃ v, e = .returned (.tuple #[v, .int .i64 er]) ∧ DfaR w' w.heap.size v d ∧ Below w.heap.size w w'

theorem chain_any (k : Int) (ws : List Int) (Aw : Option Addr) (cw : Nat) (st : Bool) (w : World)
    (hw : ws.length ≤ 60000) (hr : Rd w w.heap.size Aw (ws.map (Value.int .i64))) :
    Calls Try.prog 81 #[.int .i64 k, .slice Aw ws.length cw, .bool st] w (Gives w (chD k ws st) (chE k ws)) := by
  by_cases h : 1 ≤ k ∧ k ≤ 512 ∧ symsB k ws = true
  · have hok : chOk k ws = true := by simp [chOk, h.1, h.2.1, h.2.2]
    obtain ⟨k', rfl⟩ := Int.eq_ofNat_of_zero_le (show 0 ≤ k by omega)
    refine (chain_yes k' ws Aw cw st w hw hr (by omega) (by omega) h.2.2).mono fun e w' hh => ?_
    unfold Gives chD chE
    rw [if_pos hok, if_pos hok, Int.toNat_natCast]
    exact hh
  · have hok : chOk k ws = false := by
      rcases hb : chOk k ws with _ | _
      · rfl
      · simp [chOk] at hb
        exact absurd ⟨hb.1.1, hb.1.2, hb.2⟩ h
    refine (chain_no k ws Aw cw st w hw hr h).mono fun e w' hh => ?_
    unfold Gives chD chE
    rw [hok]
    exact hh

theorem blk4 {w : World} {g : Nat} {t : TypeId} {a b c d : Value} (h : Blk w g t #[a, b, c, d]) :
    (w.cell? ⟨g, 0, none⟩ = some a ∧ w.cell? ⟨g, 1, none⟩ = some b ∧ w.cell? ⟨g, 2, none⟩ = some c ∧ w.cell? ⟨g, 3, none⟩ = some d) ∧
    w.frozen? ⟨g, 0, none⟩ = false ∧ w.frozen? ⟨g, 1, none⟩ = false ∧ w.frozen? ⟨g, 2, none⟩ = false ∧ w.frozen? ⟨g, 3, none⟩ = false :=
  ⟨⟨by rw [h.cell]; rfl, by rw [h.cell]; rfl, by rw [h.cell]; rfl, by rw [h.cell]; rfl⟩, h.frozen 0, h.frozen 1, h.frozen 2, h.frozen 3⟩
theorem gives_end {w w1 : World} {o : Obj} {v : Value} {d : D} (hd : DfaR w1 (w.alloc o).heap.size v d) (hb : Below (w.alloc o).heap.size (w.alloc o) w1) (u0 u1 u2 u3 : Value) :
    DfaR ((((w1.setCell ⟨w.heap.size, 0, none⟩ u0).setCell ⟨w.heap.size, 1, none⟩ u1).setCell ⟨w.heap.size, 2, none⟩ u2).setCell ⟨w.heap.size, 3, none⟩ u3) w.heap.size v d ∧
    Below w.heap.size w ((((w1.setCell ⟨w.heap.size, 0, none⟩ u0).setCell ⟨w.heap.size, 1, none⟩ u1).setCell ⟨w.heap.size, 2, none⟩ u2).setCell ⟨w.heap.size, 3, none⟩ u3) := by
  have hs := hb.size
  simp at hs
  constructor
  · exact hd.touch (touch4 w1 w.heap.size u0 u1 u2 u3) (by simp) (fun j hj _ e => by simp at hj; omega)
  · exact (((Below.refl _ _).alloc (Nat.le_refl _) o).trans (hb.mono (by simp))).trans ((touch4 w1 w.heap.size u0 u1 u2 u3).toBelow (by omega) (fun j hj e => by omega))

set_option maxHeartbeats 1000000 in
set_option maxRecDepth 100000 in
theorem word_any (k : Int) (ws : List Int) (Aw : Option Addr) (cw : Nat) (w : World)
    (hw : ws.length ≤ 60000) (hr : Rd w w.heap.size Aw (ws.map (Value.int .i64))) :
    Calls Try.prog 31 #[.int .i64 k, .slice Aw ws.length cw] w (Gives w (chD k ws false) (chE k ws)) := by
  have HR := Lib.hid hr; clear hr
  go_enter Try.func31, Try.ntmps31
  go_wp2_with fail
  refine (chain_any k ws Aw cw false _ hw ?_).mono ?_
  · exact (HR.out.alloc (Nat.le_refl _) _).more (by simp)
  rintro e w1 ⟨v, rfl, hd, hb⟩
  obtain ⟨AN, cN, AA, cA, rfl⟩ := hd.form
  have hb1 := blk_below (Blk.new w 25 #[.int .i64 0, .int .i64 0, .slice none 0 0, .slice none 0 0]) hb
  obtain ⟨⟨p0, p1, p2, p3⟩, z0, z1, z2, z3⟩ := blk4 hb1
  have HD := Lib.hid hd; have HB := Lib.hid hb
  clear hd hb hb1
  go_wp2_with fail
  refine bodyPost_ret (v := .tuple #[dfaV (chD k ws false).K (chD k ws false).S AN (chD k ws false).N.length cN AA (chD k ws false).A.length cA, .int .i64 (chE k ws)]) ?_ rfl ?_
  · simp [results, Try.results31, go_sem, p0, p1, p2, p3]
  · exact ⟨_, rfl, gives_end HD.out HB.out _ _ _ _⟩

set_option maxHeartbeats 1000000 in
set_option maxRecDepth 100000 in
theorem begins_any (k : Int) (ws : List Int) (Aw : Option Addr) (cw : Nat) (w : World)
    (hw : ws.length ≤ 60000) (hr : Rd w w.heap.size Aw (ws.map (Value.int .i64))) :
    Calls Try.prog 32 #[.int .i64 k, .slice Aw ws.length cw] w (Gives w (chD k ws true) (chE k ws)) := by
  have HR := Lib.hid hr; clear hr
  go_enter Try.func32, Try.ntmps32
  go_wp2_with fail
  refine (chain_any k ws Aw cw true _ hw ?_).mono ?_
  · exact (HR.out.alloc (Nat.le_refl _) _).more (by simp)
  rintro e w1 ⟨v, rfl, hd, hb⟩
  obtain ⟨AN, cN, AA, cA, rfl⟩ := hd.form
  have hb1 := blk_below (Blk.new w 25 #[.int .i64 0, .int .i64 0, .slice none 0 0, .slice none 0 0]) hb
  obtain ⟨⟨p0, p1, p2, p3⟩, z0, z1, z2, z3⟩ := blk4 hb1
  have HD := Lib.hid hd; have HB := Lib.hid hb
  clear hd hb hb1
  go_wp2_with fail
  refine bodyPost_ret (v := .tuple #[dfaV (chD k ws true).K (chD k ws true).S AN (chD k ws true).N.length cN AA (chD k ws true).A.length cA, .int .i64 (chE k ws)]) ?_ rfl ?_
  · simp [results, Try.results32, go_sem, p0, p1, p2, p3]
  · exact ⟨_, rfl, gives_end HD.out HB.out _ _ _ _⟩


theorem none_end {w w1 : World} {o o' : Obj} {K S : Int} {AN AA : Option Addr} {cN cA : Nat} {N : List Int} {A : List Bool} (hm : Maker w1 (w.heap.size + 1) (w.heap.size + 1) K S AN cN N AA cA A)
    (ht : Touch (fun j => w.heap.size + 1 ≤ j) ((w.alloc o).alloc o') w1) (u0 u1 u2 u3 : Value) :
    DfaR ((((w1.setCell ⟨w.heap.size, 0, none⟩ u0).setCell ⟨w.heap.size, 1, none⟩ u1).setCell ⟨w.heap.size, 2, none⟩ u2).setCell ⟨w.heap.size, 3, none⟩ u3) w.heap.size (dfaV K S AN N.length cN AA A.length cA) { K := K, S := S, N := N, A := A } ∧
    Below w.heap.size w ((((w1.setCell ⟨w.heap.size, 0, none⟩ u0).setCell ⟨w.heap.size, 1, none⟩ u1).setCell ⟨w.heap.size, 2, none⟩ u2).setCell ⟨w.heap.size, 3, none⟩ u3) := by
  have hs := ht.size
  simp at hs
  have hd : DfaR w1 (w.heap.size + 1) (dfaV K S AN N.length cN AA A.length cA) { K := K, S := S, N := N, A := A } := ⟨AN, cN, AA, cA, rfl, hm.next, hm.acc⟩
  constructor
  · exact hd.touch (touch4 w1 w.heap.size u0 u1 u2 u3) (by omega) (fun j hj _ e => by omega)
  · have h1 : Below w.heap.size w ((w.alloc o).alloc o') := ((Below.refl _ _).alloc (Nat.le_refl _) o).alloc (by simp) o'
    have h2 : Below w.heap.size ((w.alloc o).alloc o') w1 := ht.toBelow (by simp; omega) (fun j hj e => by omega)
    exact (h1.trans h2).trans ((touch4 w1 w.heap.size u0 u1 u2 u3).toBelow (by omega) (fun j hj e => by omega))

def noneD (k : Int) : D := if 1 ≤ k ∧ k ≤ 512 then { K := k, S := 0, N := List.replicate k.toNat 0, A := [false] } else zeroD
def noneE (k : Int) : Int := if 1 ≤ k ∧ k ≤ 512 then 0 else 151

set_option maxHeartbeats 1000000 in
set_option maxRecDepth 100000 in
theorem none_any (k : Int) (w : World) : Calls Try.prog 33 #[.int .i64 k] w (Gives w (noneD k) (noneE k)) := by
  by_cases h1 : k < 1
  · have e1 : noneD k = zeroD := if_neg (by omega)
    have e2 : noneE k = 151 := if_neg (by omega)
    rw [e1, e2]
    clear e1 e2
    go_enter Try.func33, Try.ntmps33
    go_wp2
    exact bodyPost_ret (v := .tuple #[.agg #[.int .i64 0, .int .i64 0, .slice none 0 0, .slice none 0 0], .int .i64 151]) (by simp [results, Try.results33, go_sem]) rfl
      ⟨_, rfl, DfaR.zero _ _, (Below.refl _ _).alloc (Nat.le_refl _) _⟩
  by_cases h2 : 512 < k
  · have e1 : noneD k = zeroD := if_neg (by omega)
    have e2 : noneE k = 151 := if_neg (by omega)
    rw [e1, e2]
    clear e1 e2
    go_enter Try.func33, Try.ntmps33
    go_wp2
    exact bodyPost_ret (v := .tuple #[.agg #[.int .i64 0, .int .i64 0, .slice none 0 0, .slice none 0 0], .int .i64 151]) (by simp [results, Try.results33, go_sem]) rfl
      ⟨_, rfl, DfaR.zero _ _, (Below.refl _ _).alloc (Nat.le_refl _) _⟩
  · obtain ⟨k, rfl⟩ := Int.eq_ofNat_of_zero_le (show 0 ≤ k by omega)
    have e1 : noneD k = { K := k, S := 0, N := [] ++ List.replicate k 0, A := [] ++ [false] } := (if_pos (by omega)).trans (by simp)
    have e2 : noneE k = 0 := if_pos (by omega)
    rw [e2]
    have HE1 := Lib.hid e1
    clear e1 e2
    have hk1 : 1 ≤ k := by omega
    have hk2 : k ≤ 1000 := by omega
    go_enter Try.func33, Try.ntmps33
    go_wp2_with fail
    have hM0 : Maker ((w.alloc (.cells #[.int .i64 0, .int .i64 0, .slice none 0 0, .slice none 0 0] 25)).alloc (.cells #[.int .i64 k, .int .i64 0, .slice none 0 0, .slice none 0 0] 79)) (w.heap.size + 1) (w.heap.size + 1) k 0 none 0 [] none 0 [] := by
      have h := Maker.made (w.alloc (.cells #[.int .i64 0, .int .i64 0, .slice none 0 0, .slice none 0 0] 25)) k 0
      simpa using h
    refine (state_any (w.heap.size + 1) (w.heap.size + 1) k 0 none 0 [] none 0 [] false 0 _ hk1 hk2 (by simp) (by simp) (by simp) hM0).mono ?_
    rintro e w1 ⟨rfl, AN, cN, AA, cA, hm, ht⟩
    have ht' : Touch (fun j => w.heap.size + 1 ≤ j) _ w1 := ht.mono fun j _ h => hM0.ge (Nat.le_refl _) j h
    have hb1 := ((Blk.new w 25 #[.int .i64 0, .int .i64 0, .slice none 0 0, .slice none 0 0]).alloc (.cells #[.int .i64 k, .int .i64 0, .slice none 0 0, .slice none 0 0] 79)).touch ht' (by omega)
    obtain ⟨⟨p0, p1, p2, p3⟩, z0, z1, z2, z3⟩ := blk4 hb1
    obtain ⟨N, hN⟩ : ∃ N, N = [] ++ List.replicate k (0 : Int) := ⟨_, rfl⟩
    obtain ⟨A, hA⟩ : ∃ A, A = [] ++ [false] := ⟨_, rfl⟩
    rw [← hN, ← hA] at hm HE1
    obtain ⟨⟨q0, q1, q2, q3⟩, _⟩ := blk4 hm.blk
    have HT := Lib.hid ht'
    have HM := Lib.hid hm
    clear ht ht' hb1 hm hM0 hN hA
    go_wp2_with fail
    refine bodyPost_ret (v := .tuple #[dfaV k 0 AN N.length cN AA A.length cA, .int .i64 0]) ?_ rfl ?_
    · simp [results, Try.results33, go_sem, p0, p1, p2, p3]
    · refine ⟨_, rfl, ?_⟩
      rw [HE1.out]
      exact none_end HM.out HT.out _ _ _ _
end Go.Proofs.Ytmpcoclgcldclaa
