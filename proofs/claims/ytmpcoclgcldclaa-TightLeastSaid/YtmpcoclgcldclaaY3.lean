/- The walks of dfa.Both, dfa.Either, dfa.Less. -/
import Derived.Test.YtmpcoclgcldclaaY2
namespace Go.Proofs.Ytmpcoclgcldclaa
open Go.RowKit

/-- what a product and its error are -/
def ProdQ (f : Bool → Bool → Bool) (a b d : D) (er : Int) : Prop :=
  (prodOk a b = true → er = 0 ∧ ∃ L, ProdOf f a b d L) ∧ (prodOk a b = false → er = 151 ∧ d = zeroD)
def GivesR (f : Bool → Bool → Bool) (a b : D) (w : World) (e : Ending) (w' : World) : Prop := ∃ d er, ProdQ f a b d er ∧ Gives w d er e w'
theorem givesR_of {f : Bool → Bool → Bool} {a b : D} {w w' : World} {e : Ending} (h : GivesQ f a b w e w') : GivesR f a b w e w' := by
  unfold GivesQ at h
  rcases hp : prodOk a b with _ | _
  · rw [hp] at h
    exact ⟨zeroD, 151, ⟨(fun h => by rw [hp] at h; cases h), fun _ => ⟨rfl, rfl⟩⟩, h⟩
  · rw [hp] at h
    obtain ⟨d, L, h1, h2⟩ := h
    exact ⟨d, 0, ⟨fun _ => ⟨rfl, L, h1⟩, (fun h => by rw [hp] at h; cases h)⟩, h2⟩
theorem gives_end3 {w W w1 : World} {v : Value} {d : D} (hW : Below w.heap.size w W) (hs : W.heap.size = w.heap.size + 1 + 1 + 1) (hd : DfaR w1 W.heap.size v d) (hb : Below W.heap.size W w1) (u0 u1 u2 u3 : Value) :
    DfaR ((((w1.setCell ⟨w.heap.size + 1 + 1, 0, none⟩ u0).setCell ⟨w.heap.size + 1 + 1, 1, none⟩ u1).setCell ⟨w.heap.size + 1 + 1, 2, none⟩ u2).setCell ⟨w.heap.size + 1 + 1, 3, none⟩ u3) w.heap.size v d ∧
    Below w.heap.size w ((((w1.setCell ⟨w.heap.size + 1 + 1, 0, none⟩ u0).setCell ⟨w.heap.size + 1 + 1, 1, none⟩ u1).setCell ⟨w.heap.size + 1 + 1, 2, none⟩ u2).setCell ⟨w.heap.size + 1 + 1, 3, none⟩ u3) := by
  have hs1 := hb.size
  constructor
  · exact hd.touch (touch4 w1 (w.heap.size + 1 + 1) u0 u1 u2 u3) (by omega) (fun j hj _ e => by omega)
  · exact (hW.trans (hb.mono (by omega))).trans ((touch4 w1 (w.heap.size + 1 + 1) u0 u1 u2 u3).toBelow (by omega) (fun j hj e => by omega))
set_option maxHeartbeats 2000000 in
set_option maxRecDepth 100000 in
theorem both_c {a b : D} {Aan Aaa Abn Aba : Option Addr} {w : World} (hda : DIn w a Aan Aaa) (hdb : DIn w b Abn Aba) (can caa cbn cba : Nat) (hsz : a.A.length * b.A.length ≤ 65536 ∨ prodOk a b = false) :
    Calls Try.prog 39 #[dfaV a.K a.S Aan a.N.length can Aaa a.A.length caa, dfaV b.K b.S Abn b.N.length cbn Aba b.A.length cba] w (GivesR (fun x y => x && y) a b w) := by
  have hc := fun (W : World) (h : Below w.heap.size w W) => (product_c (hda.up h) (hdb.up h) can caa cbn cba 87 (fun x y => x && y) and_lit Try.enters87 hsz).mono (fun _ _ h => givesR_of h)
  have HC := Lib.hid hc
  have HW := Lib.hid (bel_alloc (bel_alloc (bel_new w (.cells #[.int .i64 a.K, .int .i64 a.S, .slice Aan a.N.length can, .slice Aaa a.A.length caa] 25)) (.cells #[.int .i64 b.K, .int .i64 b.S, .slice Abn b.N.length cbn, .slice Aba b.A.length cba] 25)) (.cells #[.int .i64 0, .int .i64 0, .slice none 0 0, .slice none 0 0] 25))
  have Br : Hid (Blk (((w.alloc (.cells #[.int .i64 a.K, .int .i64 a.S, .slice Aan a.N.length can, .slice Aaa a.A.length caa] 25)).alloc (.cells #[.int .i64 b.K, .int .i64 b.S, .slice Abn b.N.length cbn, .slice Aba b.A.length cba] 25)).alloc (.cells #[.int .i64 0, .int .i64 0, .slice none 0 0, .slice none 0 0] 25)) (w.heap.size + 1 + 1) 25 #[.int .i64 0, .int .i64 0, .slice none 0 0, .slice none 0 0]) := by
    have h := Blk.new ((w.alloc (.cells #[.int .i64 a.K, .int .i64 a.S, .slice Aan a.N.length can, .slice Aaa a.A.length caa] 25)).alloc (.cells #[.int .i64 b.K, .int .i64 b.S, .slice Abn b.N.length cbn, .slice Aba b.A.length cba] 25)) 25 #[.int .i64 0, .int .i64 0, .slice none 0 0, .slice none 0 0]
    simp only [size_alloc_one] at h
    exact h
  clear hc hda hdb hsz
  go_enter Try.func39, Try.ntmps39
  go_wp2_with fail
  refine (HC.out _ HW.out).mono ?_
  rintro e w1 ⟨d, er, hq, v, rfl, hd, hb⟩
  obtain ⟨AN, cN, AA, cA, rfl⟩ := hd.form
  replace Br := Lib.hid (blk_below Br.out hb)
  have HD := Lib.hid hd; have HB := Lib.hid hb; have HQ := Lib.hid hq
  clear hd hb hq
  obtain ⟨⟨r0, r1, r2, r3⟩, z0, z1, z2, z3⟩ := blk4 Br.out
  go_wp2_with fail
  refine bodyPost_ret (v := .tuple #[dfaV d.K d.S AN d.N.length cN AA d.A.length cA, .int .i64 er]) ?_ rfl ?_
  · simp [results, Try.results39, go_sem, r0, r1, r2, r3]
  · exact ⟨d, er, HQ.out, _, rfl, gives_end3 HW.out (by simp) HD.out HB.out _ _ _ _⟩
set_option maxHeartbeats 2000000 in
set_option maxRecDepth 100000 in
theorem either_c {a b : D} {Aan Aaa Abn Aba : Option Addr} {w : World} (hda : DIn w a Aan Aaa) (hdb : DIn w b Abn Aba) (can caa cbn cba : Nat) (hsz : a.A.length * b.A.length ≤ 65536 ∨ prodOk a b = false) :
    Calls Try.prog 40 #[dfaV a.K a.S Aan a.N.length can Aaa a.A.length caa, dfaV b.K b.S Abn b.N.length cbn Aba b.A.length cba] w (GivesR (fun x y => x || y) a b w) := by
  have hc := fun (W : World) (h : Below w.heap.size w W) => (product_c (hda.up h) (hdb.up h) can caa cbn cba 88 (fun x y => x || y) or_lit Try.enters88 hsz).mono (fun _ _ h => givesR_of h)
  have HC := Lib.hid hc
  have HW := Lib.hid (bel_alloc (bel_alloc (bel_new w (.cells #[.int .i64 a.K, .int .i64 a.S, .slice Aan a.N.length can, .slice Aaa a.A.length caa] 25)) (.cells #[.int .i64 b.K, .int .i64 b.S, .slice Abn b.N.length cbn, .slice Aba b.A.length cba] 25)) (.cells #[.int .i64 0, .int .i64 0, .slice none 0 0, .slice none 0 0] 25))
  have Br : Hid (Blk (((w.alloc (.cells #[.int .i64 a.K, .int .i64 a.S, .slice Aan a.N.length can, .slice Aaa a.A.length caa] 25)).alloc (.cells #[.int .i64 b.K, .int .i64 b.S, .slice Abn b.N.length cbn, .slice Aba b.A.length cba] 25)).alloc (.cells #[.int .i64 0, .int .i64 0, .slice none 0 0, .slice none 0 0] 25)) (w.heap.size + 1 + 1) 25 #[.int .i64 0, .int .i64 0, .slice none 0 0, .slice none 0 0]) := by
    have h := Blk.new ((w.alloc (.cells #[.int .i64 a.K, .int .i64 a.S, .slice Aan a.N.length can, .slice Aaa a.A.length caa] 25)).alloc (.cells #[.int .i64 b.K, .int .i64 b.S, .slice Abn b.N.length cbn, .slice Aba b.A.length cba] 25)) 25 #[.int .i64 0, .int .i64 0, .slice none 0 0, .slice none 0 0]
    simp only [size_alloc_one] at h
    exact h
  clear hc hda hdb hsz
  go_enter Try.func40, Try.ntmps40
  go_wp2_with fail
  refine (HC.out _ HW.out).mono ?_
  rintro e w1 ⟨d, er, hq, v, rfl, hd, hb⟩
  obtain ⟨AN, cN, AA, cA, rfl⟩ := hd.form
  replace Br := Lib.hid (blk_below Br.out hb)
  have HD := Lib.hid hd; have HB := Lib.hid hb; have HQ := Lib.hid hq
  clear hd hb hq
  obtain ⟨⟨r0, r1, r2, r3⟩, z0, z1, z2, z3⟩ := blk4 Br.out
  go_wp2_with fail
  refine bodyPost_ret (v := .tuple #[dfaV d.K d.S AN d.N.length cN AA d.A.length cA, .int .i64 er]) ?_ rfl ?_
  · simp [results, Try.results40, go_sem, r0, r1, r2, r3]
  · exact ⟨d, er, HQ.out, _, rfl, gives_end3 HW.out (by simp) HD.out HB.out _ _ _ _⟩
set_option maxHeartbeats 2000000 in
set_option maxRecDepth 100000 in
theorem less_c {a b : D} {Aan Aaa Abn Aba : Option Addr} {w : World} (hda : DIn w a Aan Aaa) (hdb : DIn w b Abn Aba) (can caa cbn cba : Nat) (hsz : a.A.length * b.A.length ≤ 65536 ∨ prodOk a b = false) :
    Calls Try.prog 41 #[dfaV a.K a.S Aan a.N.length can Aaa a.A.length caa, dfaV b.K b.S Abn b.N.length cbn Aba b.A.length cba] w (GivesR (fun x y => x && !y) a b w) := by
  have hc := fun (W : World) (h : Below w.heap.size w W) => (product_c (hda.up h) (hdb.up h) can caa cbn cba 89 (fun x y => x && !y) less_lit Try.enters89 hsz).mono (fun _ _ h => givesR_of h)
  have HC := Lib.hid hc
  have HW := Lib.hid (bel_alloc (bel_alloc (bel_new w (.cells #[.int .i64 a.K, .int .i64 a.S, .slice Aan a.N.length can, .slice Aaa a.A.length caa] 25)) (.cells #[.int .i64 b.K, .int .i64 b.S, .slice Abn b.N.length cbn, .slice Aba b.A.length cba] 25)) (.cells #[.int .i64 0, .int .i64 0, .slice none 0 0, .slice none 0 0] 25))
  have Br : Hid (Blk (((w.alloc (.cells #[.int .i64 a.K, .int .i64 a.S, .slice Aan a.N.length can, .slice Aaa a.A.length caa] 25)).alloc (.cells #[.int .i64 b.K, .int .i64 b.S, .slice Abn b.N.length cbn, .slice Aba b.A.length cba] 25)).alloc (.cells #[.int .i64 0, .int .i64 0, .slice none 0 0, .slice none 0 0] 25)) (w.heap.size + 1 + 1) 25 #[.int .i64 0, .int .i64 0, .slice none 0 0, .slice none 0 0]) := by
    have h := Blk.new ((w.alloc (.cells #[.int .i64 a.K, .int .i64 a.S, .slice Aan a.N.length can, .slice Aaa a.A.length caa] 25)).alloc (.cells #[.int .i64 b.K, .int .i64 b.S, .slice Abn b.N.length cbn, .slice Aba b.A.length cba] 25)) 25 #[.int .i64 0, .int .i64 0, .slice none 0 0, .slice none 0 0]
    simp only [size_alloc_one] at h
    exact h
  clear hc hda hdb hsz
  go_enter Try.func41, Try.ntmps41
  go_wp2_with fail
  refine (HC.out _ HW.out).mono ?_
  rintro e w1 ⟨d, er, hq, v, rfl, hd, hb⟩
  obtain ⟨AN, cN, AA, cA, rfl⟩ := hd.form
  replace Br := Lib.hid (blk_below Br.out hb)
  have HD := Lib.hid hd; have HB := Lib.hid hb; have HQ := Lib.hid hq
  clear hd hb hq
  obtain ⟨⟨r0, r1, r2, r3⟩, z0, z1, z2, z3⟩ := blk4 Br.out
  go_wp2_with fail
  refine bodyPost_ret (v := .tuple #[dfaV d.K d.S AN d.N.length cN AA d.A.length cA, .int .i64 er]) ?_ rfl ?_
  · simp [results, Try.results41, go_sem, r0, r1, r2, r3]
  · exact ⟨d, er, HQ.out, _, rfl, gives_end3 HW.out (by simp) HD.out HB.out _ _ _ _⟩
theorem D.Ok.sizes {d : D} (h : d.Ok) : d.N.length ≤ 9223372036854775807 ∧ d.A.length ≤ 9223372036854775807 := by
  have h1 := h.2.2.2.2.1
  have h2 := h.2.2.2.1
  have h3 : ((d.A.length : Nat) : Int) * d.K ≤ 65536 * 512 := Int.mul_le_mul (by omega) h.2.1 (by have := h.1; omega) (by omega)
  omega
theorem prodOk_yes {a b : D} (ha : a.Ok) (hb : b.Ok) (hK : a.K = b.K) : prodOk a b = true := by
  unfold prodOk
  rw [D.right_true.2 ha, D.right_true.2 hb, hK]
  simp
theorem prod_ok {f : Bool → Bool → Bool} {a b d : D} {L : List (Int × Int)} (h : ProdOf f a b d L) (ha : a.Ok) (hb : b.Ok) (hK : a.K = b.K) (hs : a.A.length * b.A.length ≤ 65536) : d.Ok ∧ d.A.length ≤ a.A.length * b.A.length ∧ d.K = a.K := by
  have hl := h.inv.len ha hb hK
  exact ⟨h.ok ha (by omega), by rw [h.len]; exact hl, h.k⟩
end Go.Proofs.Ytmpcoclgcldclaa
