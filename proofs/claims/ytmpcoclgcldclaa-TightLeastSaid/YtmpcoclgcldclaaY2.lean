/- The walks of dfa.Both, dfa.Either, dfa.Less. -/
import Derived.Test.YtmpcoclgcldclaaY
namespace Go.Proofs.Ytmpcoclgcldclaa
open Go.RowKit

theorem Try.enters87 : ∀ args w, (callFunc 87 args).run Try.prog w = .ok (.enter 87 args) w := enters_of Try.func87 (by kernel_rfl) rfl
theorem Try.enters88 : ∀ args w, (callFunc 88 args).run Try.prog w = .ok (.enter 88 args) w := enters_of Try.func88 (by kernel_rfl) rfl
theorem Try.enters89 : ∀ args w, (callFunc 89 args).run Try.prog w = .ok (.enter 89 args) w := enters_of Try.func89 (by kernel_rfl) rfl
set_option maxRecDepth 100000 in
theorem and_lit (x y : Bool) (w : World) : Calls Try.prog 87 #[.bool x, .bool y] w fun e w' => e = .returned (.bool (x && y)) ∧ w = w' := by
  cases x
  all_goals
    go_enter Try.func87, Try.ntmps87
    go_wp2
    go_ret
    exact ⟨rfl, rfl⟩
set_option maxRecDepth 100000 in
theorem or_lit (x y : Bool) (w : World) : Calls Try.prog 88 #[.bool x, .bool y] w fun e w' => e = .returned (.bool (x || y)) ∧ w = w' := by
  cases x
  all_goals
    go_enter Try.func88, Try.ntmps88
    go_wp2
    go_ret
    exact ⟨rfl, rfl⟩
set_option maxRecDepth 100000 in
theorem less_lit (x y : Bool) (w : World) : Calls Try.prog 89 #[.bool x, .bool y] w fun e w' => e = .returned (.bool (x && !y)) ∧ w = w' := by
  cases x
  all_goals
    go_enter Try.func89, Try.ntmps89
    go_wp2
    go_ret
    exact ⟨rfl, rfl⟩

/-- may a product be made? -/
def prodOk (a b : D) : Bool := a.right && (b.right && (a.K == b.K))
/-- product, whatever it is given: no automaton, or that of the pairs -/
def GivesQ (f : Bool → Bool → Bool) (a b : D) (w : World) (e : Ending) (w' : World) : Prop :=
  if prodOk a b then GivesP f a b w e w' else Gives w zeroD 151 e w'

set_option maxHeartbeats 4000000 in
set_option maxRecDepth 100000 in
theorem product_no (a b : D) (Aan Aaa Abn Aba : Option Addr) (can caa cbn cba : Nat) (g : Value) (w : World)
    (hda : DIn w a Aan Aaa) (hdb : DIn w b Abn Aba) (hno : prodOk a b = false) :
    Calls Try.prog 86 #[dfaV a.K a.S Aan a.N.length can Aaa a.A.length caa, dfaV b.K b.S Abn b.N.length cbn Aba b.A.length cba, g] w (Gives w zeroD 151) := by
  have ca := fun (W : World) (h : Below w.heap.size w W) => right_c (hda.up h) can caa
  have cb := fun (W : World) (h : Below w.heap.size w W) => right_c (hdb.up h) cbn cba
  have Bb : Hid (BlkD (((w.alloc (.cells #[.int .i64 a.K, .int .i64 a.S, .slice Aan a.N.length can, .slice Aaa a.A.length caa] 25)).alloc (.cells #[.int .i64 b.K, .int .i64 b.S, .slice Abn b.N.length cbn, .slice Aba b.A.length cba] 25)).alloc (.cells #[.int .i64 0, .int .i64 0, .slice none 0 0, .slice none 0 0] 25)) (w.heap.size + 1) b Abn cbn Aba cba) := by
    have h := (Blk.new (w.alloc (.cells #[.int .i64 a.K, .int .i64 a.S, .slice Aan a.N.length can, .slice Aaa a.A.length caa] 25)) 25 #[.int .i64 b.K, .int .i64 b.S, .slice Abn b.N.length cbn, .slice Aba b.A.length cba]).alloc (.cells #[.int .i64 0, .int .i64 0, .slice none 0 0, .slice none 0 0] 25)
    simp only [size_alloc_one] at h
    exact h
  have Ba : Hid (BlkD (((w.alloc (.cells #[.int .i64 a.K, .int .i64 a.S, .slice Aan a.N.length can, .slice Aaa a.A.length caa] 25)).alloc (.cells #[.int .i64 b.K, .int .i64 b.S, .slice Abn b.N.length cbn, .slice Aba b.A.length cba] 25)).alloc (.cells #[.int .i64 0, .int .i64 0, .slice none 0 0, .slice none 0 0] 25)) w.heap.size a Aan can Aaa caa) := ((Blk.new w 25 _).alloc _).alloc _
  have Br : Hid (Blk (((w.alloc (.cells #[.int .i64 a.K, .int .i64 a.S, .slice Aan a.N.length can, .slice Aaa a.A.length caa] 25)).alloc (.cells #[.int .i64 b.K, .int .i64 b.S, .slice Abn b.N.length cbn, .slice Aba b.A.length cba] 25)).alloc (.cells #[.int .i64 0, .int .i64 0, .slice none 0 0, .slice none 0 0] 25)) (w.heap.size + 1 + 1) 25 #[.int .i64 0, .int .i64 0, .slice none 0 0, .slice none 0 0]) := by
    have h := Blk.new ((w.alloc (.cells #[.int .i64 a.K, .int .i64 a.S, .slice Aan a.N.length can, .slice Aaa a.A.length caa] 25)).alloc (.cells #[.int .i64 b.K, .int .i64 b.S, .slice Abn b.N.length cbn, .slice Aba b.A.length cba] 25)) 25 #[.int .i64 0, .int .i64 0, .slice none 0 0, .slice none 0 0]
    simp only [size_alloc_one] at h
    exact h
  have HW := Lib.hid (bel_alloc (bel_alloc (bel_new w (.cells #[.int .i64 a.K, .int .i64 a.S, .slice Aan a.N.length can, .slice Aaa a.A.length caa] 25)) (.cells #[.int .i64 b.K, .int .i64 b.S, .slice Abn b.N.length cbn, .slice Aba b.A.length cba] 25)) (.cells #[.int .i64 0, .int .i64 0, .slice none 0 0, .slice none 0 0] 25))
  have HNO := Lib.hid hno
  clear hda hdb hno
  rcases h1 : a.right with _ | _
  · rw [h1] at ca
    have CA := Lib.hid ca
    clear ca cb Bb HNO h1 Ba
    go_enter Try.func86, Try.ntmps86
    go_wp2_with fail
    refine (CA.out _ HW.out).mono ?_
    rintro e w1 ⟨rfl, hb1⟩
    replace Br := Lib.hid (blk_below Br.out hb1)
    replace HW := Lib.hid (bel_step HW.out hb1)
    clear hb1
    obtain ⟨⟨r0, r1, r2, r3⟩, z0, z1, z2, z3⟩ := blk4 Br.out
    go_wp2_with fail
    refine bodyPost_ret (v := .tuple #[.agg #[.int .i64 0, .int .i64 0, .slice none 0 0, .slice none 0 0], .int .i64 151]) ?_ rfl ?_
    · simp [results, Try.results86, go_sem, r0, r1, r2, r3]
    · exact ⟨_, rfl, DfaR.zero _ _, HW.out.trans ((touch4 w1 (w.heap.size + 1 + 1) _ _ _ _).toBelow HW.out.size (fun k hk e => by omega))⟩
  · rw [h1] at ca
    rcases h2 : b.right with _ | _
    · rw [h2] at cb
      have CA := Lib.hid ca; have CB := Lib.hid cb
      clear ca cb HNO h1 h2 Ba
      go_enter Try.func86, Try.ntmps86
      go_wp2_with fail
      refine (CA.out _ HW.out).mono ?_
      rintro e w1 ⟨rfl, hb1⟩
      replace Br := Lib.hid (blk_below Br.out hb1)
      replace Bb := Lib.hid (blk_below Bb.out hb1)
      replace HW := Lib.hid (bel_step HW.out hb1)
      clear hb1
      obtain ⟨⟨b0, b1, b2, b3⟩, _⟩ := blk4 Bb.out
      go_wp2_with fail
      refine (CB.out _ HW.out).mono ?_
      rintro e w2 ⟨rfl, hb1⟩
      replace Br := Lib.hid (blk_below Br.out hb1)
      replace HW := Lib.hid (bel_step HW.out hb1)
      clear hb1 b0 b1 b2 b3
      obtain ⟨⟨r0, r1, r2, r3⟩, z0, z1, z2, z3⟩ := blk4 Br.out
      go_wp2_with fail
      refine bodyPost_ret (v := .tuple #[.agg #[.int .i64 0, .int .i64 0, .slice none 0 0, .slice none 0 0], .int .i64 151]) ?_ rfl ?_
      · simp [results, Try.results86, go_sem, r0, r1, r2, r3]
      · exact ⟨_, rfl, DfaR.zero _ _, HW.out.trans ((touch4 w2 (w.heap.size + 1 + 1) _ _ _ _).toBelow HW.out.size (fun k hk e => by omega))⟩
    · rw [h2] at cb
      have hkk : (a.K != b.K) = true := by
        have h := HNO.out
        unfold prodOk at h
        rw [h1, h2] at h
        simp only [Bool.true_and] at h
        rw [bne, h]; rfl
      have CA := Lib.hid ca; have CB := Lib.hid cb
      clear ca cb HNO h1 h2
      go_enter Try.func86, Try.ntmps86
      go_wp2_with fail
      refine (CA.out _ HW.out).mono ?_
      rintro e w1 ⟨rfl, hb1⟩
      replace Br := Lib.hid (blk_below Br.out hb1)
      replace Ba := Lib.hid (blk_below Ba.out hb1)
      replace Bb := Lib.hid (blk_below Bb.out hb1)
      replace HW := Lib.hid (bel_step HW.out hb1)
      clear hb1
      obtain ⟨⟨b0, b1, b2, b3⟩, _⟩ := blk4 Bb.out
      go_wp2_with fail
      refine (CB.out _ HW.out).mono ?_
      rintro e w2 ⟨rfl, hb1⟩
      replace Br := Lib.hid (blk_below Br.out hb1)
      replace Ba := Lib.hid (blk_below Ba.out hb1)
      replace Bb := Lib.hid (blk_below Bb.out hb1)
      replace HW := Lib.hid (bel_step HW.out hb1)
      clear hb1 b0 b1 b2 b3
      obtain ⟨⟨r0, r1, r2, r3⟩, z0, z1, z2, z3⟩ := blk4 Br.out
      obtain ⟨⟨a0, a1, a2, a3⟩, _⟩ := blk4 Ba.out
      obtain ⟨⟨b0, b1, b2, b3⟩, _⟩ := blk4 Bb.out
      go_wp2_with fail
      refine bodyPost_ret (v := .tuple #[.agg #[.int .i64 0, .int .i64 0, .slice none 0 0, .slice none 0 0], .int .i64 151]) ?_ rfl ?_
      · simp [results, Try.results86, go_sem, r0, r1, r2, r3]
      · exact ⟨_, rfl, DfaR.zero _ _, HW.out.trans ((touch4 w2 (w.heap.size + 1 + 1) _ _ _ _).toBelow HW.out.size (fun k hk e => by omega))⟩
theorem product_c {a b : D} {Aan Aaa Abn Aba : Option Addr} {w : World} (hda : DIn w a Aan Aaa) (hdb : DIn w b Abn Aba) (can caa cbn cba : Nat) (g : FuncId) (f : Bool → Bool → Bool)
    (hg : ∀ x y w, Calls Try.prog g #[.bool x, .bool y] w fun e w' => e = .returned (.bool (f x y)) ∧ w = w') (eg : ∀ args w, (callFunc g args).run Try.prog w = .ok (.enter g args) w) (hsz : a.A.length * b.A.length ≤ 65536 ∨ prodOk a b = false) :
    Calls Try.prog 86 #[dfaV a.K a.S Aan a.N.length can Aaa a.A.length caa, dfaV b.K b.S Abn b.N.length cbn Aba b.A.length cba, .func (.func g) #[] #[]] w (GivesQ f a b w) := by
  unfold GivesQ
  rcases hp : prodOk a b with _ | _
  · exact product_no a b Aan Aaa Abn Aba can caa cbn cba _ w hda hdb hp
  · have hp' := hp
    unfold prodOk at hp'
    simp only [Bool.and_eq_true, beq_iff_eq] at hp'
    refine product_any a b Aan Aaa Abn Aba can caa cbn cba g f w hg eg hda hdb (D.right_true.1 hp'.1) (D.right_true.1 hp'.2.1) hp'.2.2 ?_
    rcases hsz with h | h
    · exact h
    · rw [hp] at h; cases h
end Go.Proofs.Ytmpcoclgcldclaa
