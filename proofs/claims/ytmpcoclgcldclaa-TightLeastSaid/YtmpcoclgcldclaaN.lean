/- The walk of dfa.Not, and of slices.Clone at its two types. -/
import Derived.Test.YtmpcoclgcldclaaK
import Derived.Deep.DeepCutAuto
namespace Go.Proofs.Ytmpcoclgcldclaa
open Go.RowKit
attribute [local go_sem ↓] Go.wp_at_zero Go.wp_at_succ

theorem Try.sizeOf4' : ∀ w, (Go.sizeOf 4).run Try.prog w = .ok 1 w := fun _ => by kernel_rfl
/-- slices.Clone of ints, at least one -/
theorem clone83 (xs : List Int) (A : Option Addr) (c : Nat) (w : World) (h0 : 0 < xs.length) (hl : xs.length ≤ 1000000000000) (hr : Rd w w.heap.size A (xs.map (Value.int .i64))) :
    Calls Try.prog 83 #[.slice A xs.length c] w fun e w' => ∃ v', e = .returned v' ∧ w'.ownsRow w.heap.size 3 1 v' xs.length (xs.map (Value.int .i64)) ∧ Below w.heap.size w w' := by
  obtain ⟨b, o, rfl, hb, hc⟩ := hr (by simpa using h0)
  refine (Try.slices_Clone_int b o xs.length c xs w (Nat.le_refl _) (by omega) (fun j hj => ?_)).mono ?_
  · refine hc j _ ?_
    rw [List.getElem?_map, List.getD_eq_getElem?_getD, List.getElem?_eq_getElem hj]; rfl
  · rintro e w' ⟨v', rfl, ho, _, hb⟩
    rw [List.take_length] at ho
    exact ⟨v', rfl, ho, hb⟩
/-- slices.Clone of bools, at least one -/
theorem clone84 (xs : List Bool) (A : Option Addr) (c : Nat) (w : World) (h0 : 0 < xs.length) (hl : xs.length ≤ 1000000000000) (hr : Rd w w.heap.size A (xs.map Value.bool)) :
    Calls Try.prog 84 #[.slice A xs.length c] w fun e w' => ∃ v', e = .returned v' ∧ w'.ownsRow w.heap.size 4 1 v' xs.length (xs.map Value.bool) ∧ Below w.heap.size w w' := by
  obtain ⟨b, o, rfl, hb, hc⟩ := hr (by simpa using h0)
  obtain ⟨i4, hi4, hz4, hs4, hb4⟩ := info_parts Try.info4
  refine (Try.slices_Clone_f84 i4 (.bool false) 1 1 hi4 hz4 hs4 hb4 rfl (by omega) Try.sizeOf4' b o xs.length c (xs.map Value.bool) w (by simp) (by unfold maxLen; omega) (by omega) hc (fun u hu => by
    obtain ⟨x, _, rfl⟩ := List.mem_map.1 hu; rfl)).mono ?_
  rintro e w' ⟨v', rfl, ho, _, hb⟩
  exact ⟨v', rfl, ho, hb⟩

theorem size_alloc_one (w : World) (o : Obj) : (w.alloc o).heap.size = w.heap.size + 1 := by simp
theorem keep4 (w : World) {b nb : Nat} (h : ¬ b = nb) (u0 u1 u2 u3 : Value) (i : Nat) :
    ((((w.setCell ⟨nb, 0, none⟩ u0).setCell ⟨nb, 1, none⟩ u1).setCell ⟨nb, 2, none⟩ u2).setCell ⟨nb, 3, none⟩ u3).cell? ⟨b, i, none⟩ = w.cell? ⟨b, i, none⟩ := by
  have hne : ∀ o, (⟨b, i, none⟩ : Addr) ≠ ⟨nb, o, none⟩ := fun o e => h (congrArg Addr.block e)
  rw [World.cell?_setCell_other _ _ _ _ (Ne.symm (hne 3)), World.cell?_setCell_other _ _ _ _ (Ne.symm (hne 2)), World.cell?_setCell_other _ _ _ _ (Ne.symm (hne 1)), World.cell?_setCell_other _ _ _ _ (Ne.symm (hne 0))]
theorem blkset4 {w : World} {g : Nat} {t : TypeId} {a b c d : Value} (h : Blk w g t #[a, b, c, d]) (u0 u1 u2 u3 : Value) :
    Blk ((((w.setCell ⟨g, 0, none⟩ u0).setCell ⟨g, 1, none⟩ u1).setCell ⟨g, 2, none⟩ u2).setCell ⟨g, 3, none⟩ u3) g t #[u0, u1, u2, u3] :=
  (((h.set_ 0 u0).set_ 1 u1).set_ 2 u2).set_ 3 u3
theorem not_meet {w w3 : World} {nb B : Nat} {AN AA : Option Addr} {nN nA cN cA : Nat} {xs ys : List Value} {a b c d r0 r1 r2 r3 : Value} (hv : Blk w3 nb 25 #[a, b, c, d])
    (hn : w3.ownsRow w.heap.size 3 1 (.slice AN nN cN) nN xs) (ho : w3.ownsRow w.heap.size 4 1 (.slice AA nA cA) nA ys) (hr : Blk w3 (B + 1) 25 #[r0, r1, r2, r3]) (hne : B + 1 ≠ nb) (hw : Below w.heap.size w w3) (hle : w.heap.size ≤ nb) (u0 u1 u2 u3 : Value) :
    Hid (Blk ((((w3.setCell ⟨nb, 0, none⟩ u0).setCell ⟨nb, 1, none⟩ u1).setCell ⟨nb, 2, none⟩ u2).setCell ⟨nb, 3, none⟩ u3) nb 25 #[u0, u1, u2, u3]) ∧
    Hid (((((w3.setCell ⟨nb, 0, none⟩ u0).setCell ⟨nb, 1, none⟩ u1).setCell ⟨nb, 2, none⟩ u2).setCell ⟨nb, 3, none⟩ u3).ownsRow w.heap.size 3 1 (.slice AN nN cN) nN xs) ∧
    Hid (((((w3.setCell ⟨nb, 0, none⟩ u0).setCell ⟨nb, 1, none⟩ u1).setCell ⟨nb, 2, none⟩ u2).setCell ⟨nb, 3, none⟩ u3).ownsRow w.heap.size 4 1 (.slice AA nA cA) nA ys) ∧
    Hid (Blk ((((w3.setCell ⟨nb, 0, none⟩ u0).setCell ⟨nb, 1, none⟩ u1).setCell ⟨nb, 2, none⟩ u2).setCell ⟨nb, 3, none⟩ u3) (B + 1) 25 #[r0, r1, r2, r3]) ∧
    Hid (Below w.heap.size w ((((w3.setCell ⟨nb, 0, none⟩ u0).setCell ⟨nb, 1, none⟩ u1).setCell ⟨nb, 2, none⟩ u2).setCell ⟨nb, 3, none⟩ u3)) :=
  ⟨blkset4 hv u0 u1 u2 u3, own_touch hn (touch4 w3 nb u0 u1 u2 u3) (fun k hk e => own_ne_blk hn hv (by decide) (by rw [hk, e])), own_touch ho (touch4 w3 nb u0 u1 u2 u3) (fun k hk e => own_ne_blk ho hv (by decide) (by rw [hk, e])),
    hr.touch (touch4 w3 nb u0 u1 u2 u3) hne, hw.trans ((touch4 w3 nb u0 u1 u2 u3).toBelow hw.size (fun k hk e => by omega))⟩
/-- the first j of them turned round -/
def negTo (A : List Bool) (j : Nat) : List Bool := (A.take j).map (!·) ++ A.drop j
theorem negTo_zero (A : List Bool) : negTo A 0 = A := by simp [negTo]
theorem negTo_all (A : List Bool) : negTo A A.length = A.map (!·) := by simp [negTo]
theorem negTo_at {A : List Bool} {j : Nat} {x : Bool} (h : A[j]? = some x) : (negTo A j)[j]? = some x := by
  have hl := (List.getElem?_eq_some_iff.1 h).1
  unfold negTo
  rw [List.getElem?_append_right (by simp; omega), List.getElem?_drop]
  simp only [List.length_map, List.length_take]
  rw [show j + (j - min j A.length) = j by omega, h]
theorem negTo_set {A : List Bool} {j : Nat} {x : Bool} (h : A[j]? = some x) : (negTo A j).set j (!x) = negTo A (j + 1) := by
  obtain ⟨hl, hx⟩ := List.getElem?_eq_some_iff.1 h
  unfold negTo
  rw [List.set_append_right _ _ (by simp; omega), take_snoc h, List.map_append, List.append_assoc]
  congr 1
  simp only [List.length_map, List.length_take]
  rw [show j - min j A.length = 0 by omega, List.drop_eq_getElem_cons hl]
  rfl
def notD (d : D) : D := { K := d.K, S := d.S, N := d.N, A := d.A.map (!·) }

theorem not_end {w wr : World} {B gA cA cN : Nat} {AN : Option Addr} {d : D} {r0 r1 r2 r3 : Value} (hn : wr.ownsRow w.heap.size 3 1 (.slice AN d.N.length cN) d.N.length (d.N.map (Value.int .i64)))
    (ha : wr.ownsRow w.heap.size 4 1 (.slice (some ⟨gA, 0, none⟩) d.A.length cA) d.A.length ((negTo d.A d.A.length).map Value.bool)) (hr : Blk wr (B + 1) 25 #[r0, r1, r2, r3]) (hw : Below w.heap.size w wr) (hB : w.heap.size = B) (u0 u1 u2 u3 : Value) :
    DfaR ((((wr.setCell ⟨B + 1, 0, none⟩ u0).setCell ⟨B + 1, 1, none⟩ u1).setCell ⟨B + 1, 2, none⟩ u2).setCell ⟨B + 1, 3, none⟩ u3) w.heap.size (dfaV d.K d.S AN d.N.length cN (some ⟨gA, 0, none⟩) d.A.length cA) (notD d) ∧
    Below w.heap.size w ((((wr.setCell ⟨B + 1, 0, none⟩ u0).setCell ⟨B + 1, 1, none⟩ u1).setCell ⟨B + 1, 2, none⟩ u2).setCell ⟨B + 1, 3, none⟩ u3) := by
  have e : (notD d).A.length = d.A.length := by simp [notD]
  refine ⟨⟨AN, cN, some ⟨gA, 0, none⟩, cA, ?_, ?_, ?_⟩, hw.trans ((touch4 wr (B + 1) u0 u1 u2 u3).toBelow hw.size (fun k hk e => by omega))⟩
  · rw [e]; rfl
  · have h := own_touch hn (touch4 wr (B + 1) u0 u1 u2 u3) (fun k hk e => own_ne_blk hn hr (by decide) (by rw [hk, e]))
    exact h
  · rw [e]
    have h := own_touch ha (touch4 wr (B + 1) u0 u1 u2 u3) (fun k hk e => own_ne_blk ha hr (by decide) (by rw [hk, e]))
    rw [negTo_all] at h
    exact h

set_option maxHeartbeats 2000000 in
set_option maxRecDepth 100000 in
theorem not_yes (d : D) (An Aa : Option Addr) (cn ca : Nat) (w : World) (hok : d.Ok)
    (hrn : Rd w w.heap.size An (d.N.map (Value.int .i64))) (hra : Rd w w.heap.size Aa (d.A.map Value.bool)) :
    Calls Try.prog 37 #[dfaV d.K d.S An d.N.length cn Aa d.A.length ca] w (Gives w (notD d) 0) := by
  have hA1 : 0 < d.A.length := hok.2.2.1
  have hA2 : d.A.length ≤ 65536 := hok.2.2.2.1
  have hN1 : 0 < d.N.length := by
    have h1 := hok.2.2.2.2.1
    have h2 := hok.1
    have h3 : 1 * 1 ≤ (d.A.length : Int) * d.K := Int.mul_le_mul (by omega) h2 (by omega) (by omega)
    omega
  have hN2 : d.N.length ≤ 33554432 := by
    have h1 := hok.2.2.2.2.1
    have h3 : (d.A.length : Int) * d.K ≤ 65536 * 512 := Int.mul_le_mul (by omega) hok.2.1 (by have := hok.1; omega) (by omega)
    omega
  have c27 := fun (W : World) (hb : Below w.heap.size w W) => right_any d An Aa cn ca W (by omega) (by omega) (hrn.up (Nat.le_refl _) hb)
  rw [D.right_true.2 hok] at c27
  have c83 := fun (W : World) (hb : Below w.heap.size w W) => clone83 d.N An cn W hN1 (by omega) (hrn.up (Nat.le_refl _) hb)
  have c84 := fun (W : World) (hb : Below w.heap.size w W) => clone84 d.A Aa ca W hA1 (by omega) (hra.up (Nat.le_refl _) hb)
  have C27 := Lib.hid c27; have C83 := Lib.hid c83; have C84 := Lib.hid c84
  have HOK := Lib.hid hok
  clear c27 c83 c84 hrn hra hok
  go_enter Try.func37, Try.ntmps37
  go_wp2_with fail
  refine (C27.out _ ?_).mono ?_
  · exact (((Below.refl _ _).alloc (Nat.le_refl _) _).alloc (by simp) _)
  rintro e w1 ⟨rfl, hb1⟩
  go_wp2_with fail
  have hk1 := blk_below ((Blk.new w 25 #[.int .i64 d.K, .int .i64 d.S, .slice An d.N.length cn, .slice Aa d.A.length ca]).alloc (.cells #[.int .i64 0, .int .i64 0, .slice none 0 0, .slice none 0 0] 25)) hb1
  have hr1 := blk_below (Blk.new (w.alloc (.cells #[.int .i64 d.K, .int .i64 d.S, .slice An d.N.length cn, .slice Aa d.A.length ca] 25)) 25 #[.int .i64 0, .int .i64 0, .slice none 0 0, .slice none 0 0]) hb1
  have hw1 : Below w.heap.size w w1 := (((Below.refl _ _).alloc (Nat.le_refl _) _).alloc (by simp) _).trans (hb1.mono (by simp; omega))
  have hs1 : w.heap.size + 2 ≤ w1.heap.size := by have := hb1.size; simpa using this
  simp only [size_alloc_one] at hr1
  generalize hB : w.heap.size = B at hk1 hr1 hw1 hs1 ⊢
  have HB := Lib.hid hB; clear hB
  have HK1 := Lib.hid hk1.drew; have HR1 := Lib.hid hr1.drew
  have HW1 : Hid (Below w.heap.size w w1.drew) := by rw [HB.out]; exact hw1.drew
  have HWp : Hid (∀ W, Below B w W → Below w.heap.size w W) := by rw [HB.out]; exact fun _ h => h
  obtain ⟨⟨p0, p1, p2, p3⟩, _⟩ := blk4 hk1
  clear hb1 hk1 hr1 hw1
  go_cut [4] (fun v4 wx => ∃ (nb : Nat) (AN : Option Addr) (cN : Nat) (AA : Option Addr) (cA : Nat), v4 = .pointer (some ⟨nb, 0, none⟩) ∧ B + 1 < nb ∧ Hid (Blk wx nb 25 #[.int .i64 d.K, .int .i64 d.S, .slice AN d.N.length cN, .slice AA d.A.length cA]) ∧
    Hid (wx.ownsRow w.heap.size 3 1 (.slice AN d.N.length cN) d.N.length (d.N.map (Value.int .i64))) ∧ Hid (wx.ownsRow w.heap.size 4 1 (.slice AA d.A.length cA) d.A.length (d.A.map Value.bool)) ∧
    Hid (Blk wx (B + 1) 25 #[.int .i64 0, .int .i64 0, .slice none 0 0, .slice none 0 0]) ∧ Hid (Below w.heap.size w wx))
  case first =>
    have hBl : B < w1.heap.size := by omega
    have hBm1 : ¬ B = w1.heap.size := by omega
    go_region_held3 (fun w' => w'.cell? ⟨B, 0, none⟩ = some (.int .i64 d.K) ∧ w'.cell? ⟨B, 1, none⟩ = some (.int .i64 d.S) ∧ w'.cell? ⟨B, 2, none⟩ = some (.slice An d.N.length cn) ∧ w'.cell? ⟨B, 3, none⟩ = some (.slice Aa d.A.length ca))
      (first
        | go_keep
        | (go_split_ands; refine ⟨?_, ?_, ?_, ?_⟩ <;> (rw [keep4 _ hBm2]; assumption))
        | (go_split_ands; refine ⟨?_, ?_, ?_, ?_⟩ <;> (rw [keep4 _ hBm1]; assumption)))
      (first
        | (go_at_call 83
           refine (C83.out _ ?_).mono ?_
           (exact HW1.out)
           rintro e w2 ⟨v2, rfl, ho2, hb2⟩
           obtain ⟨AN, cN, rfl⟩ := own_form ho2
           have HW2 : Hid (Below w.heap.size w w2) := HW1.out.trans (hb2.mono HW1.out.size)
           have HK2 := Lib.hid (blk_below HK1.out hb2)
           have HR2 := Lib.hid (blk_below HR1.out hb2)
           obtain ⟨⟨r0, r1, r2, r3⟩, _⟩ := blk4 HK2.out
           have hBn2 : B < w2.heap.size := HK2.out.lt
           have hBm2 : ¬ B = w2.heap.size := by omega
           have HO2 := Lib.hid (ho2.mono HW1.out.size)
           clear ho2 hb2)
        | (go_at_call 83
           refine (C83.out _ ?_).mono ?_
           (exact HW1.out.alloc HW1.out.size (.cells #[.int .i64 0, .int .i64 0, .slice none 0 0, .slice none 0 0] 25))
           rintro e w2 ⟨v2, rfl, ho2, hb2⟩
           obtain ⟨AN, cN, rfl⟩ := own_form ho2
           have HW2 : Hid (Below w.heap.size w w2) := (HW1.out.alloc HW1.out.size (.cells #[.int .i64 0, .int .i64 0, .slice none 0 0, .slice none 0 0] 25)).trans (hb2.mono (HW1.out.alloc HW1.out.size (.cells #[.int .i64 0, .int .i64 0, .slice none 0 0, .slice none 0 0] 25)).size)
           have HK2 := Lib.hid (blk_below (HK1.out.alloc (.cells #[.int .i64 0, .int .i64 0, .slice none 0 0, .slice none 0 0] 25)) hb2)
           have HR2 := Lib.hid (blk_below (HR1.out.alloc (.cells #[.int .i64 0, .int .i64 0, .slice none 0 0, .slice none 0 0] 25)) hb2)
           have HV2 : Hid (Blk w2 w1.heap.size 25 #[.int .i64 0, .int .i64 0, .slice none 0 0, .slice none 0 0]) := blk_below (Blk.new w1.drew 25 #[.int .i64 0, .int .i64 0, .slice none 0 0, .slice none 0 0]) hb2
           obtain ⟨⟨r0, r1, r2, r3⟩, _⟩ := blk4 HK2.out
           have hBn2 : B < w2.heap.size := HK2.out.lt
           have hBm2 : ¬ B = w2.heap.size := by omega
           have HO2 := Lib.hid (ho2.mono (HW1.out.alloc HW1.out.size (.cells #[.int .i64 0, .int .i64 0, .slice none 0 0, .slice none 0 0] 25)).size)
           clear ho2 hb2)
        | (go_at_call 84
           refine (C84.out _ ?_).mono ?_
           (exact HW2.out)
           rintro e w3 ⟨v3, rfl, ho3, hb3⟩
           obtain ⟨AA, cA, rfl⟩ := own_form ho3
           have HW3 : Hid (Below w.heap.size w w3) := HW2.out.trans (hb3.mono HW2.out.size)
           have HK3 := Lib.hid (blk_below HK2.out hb3)
           have HR3 := Lib.hid (blk_below HR2.out hb3)
           obtain ⟨⟨s0, s1, s2, s3⟩, _⟩ := blk4 HK3.out
           have hnw := World.new_ne w3 _ s0
           have HO3 := Lib.hid (ho3.mono HW2.out.size)
           have HN3 := Lib.hid (own_below HO2.out hb3)
           have HV3 := Lib.hid (blk_below HV2.out hb3)
           obtain ⟨⟨t0, t1, t2, t3⟩, z0, z1, z2, z3⟩ := blk4 HV3.out
           clear ho3 hb3)
        | (go_at_call 84
           refine (C84.out _ ?_).mono ?_
           (exact HW2.out)
           rintro e w3 ⟨v3, rfl, ho3, hb3⟩
           obtain ⟨AA, cA, rfl⟩ := own_form ho3
           have HW3 : Hid (Below w.heap.size w w3) := HW2.out.trans (hb3.mono HW2.out.size)
           have HK3 := Lib.hid (blk_below HK2.out hb3)
           have HR3 := Lib.hid (blk_below HR2.out hb3)
           obtain ⟨⟨s0, s1, s2, s3⟩, _⟩ := blk4 HK3.out
           have hnw := World.new_ne w3 _ s0
           have HO3 := Lib.hid (ho3.mono HW2.out.size)
           have HN3 := Lib.hid (own_below HO2.out hb3)
           clear ho3 hb3)
        | (go_at_call 84
           refine (C84.out _ ?_).mono ?_
           (exact HW2.out.alloc HW2.out.size (.cells #[.int .i64 0, .int .i64 0, .slice none 0 0, .slice none 0 0] 25))
           rintro e w3 ⟨v3, rfl, ho3, hb3⟩
           obtain ⟨AA, cA, rfl⟩ := own_form ho3
           have HW3 : Hid (Below w.heap.size w w3) := (HW2.out.alloc HW2.out.size (.cells #[.int .i64 0, .int .i64 0, .slice none 0 0, .slice none 0 0] 25)).trans (hb3.mono (HW2.out.alloc HW2.out.size (.cells #[.int .i64 0, .int .i64 0, .slice none 0 0, .slice none 0 0] 25)).size)
           have HK3 := Lib.hid (blk_below (HK2.out.alloc (.cells #[.int .i64 0, .int .i64 0, .slice none 0 0, .slice none 0 0] 25)) hb3)
           have HR3 := Lib.hid (blk_below (HR2.out.alloc (.cells #[.int .i64 0, .int .i64 0, .slice none 0 0, .slice none 0 0] 25)) hb3)
           obtain ⟨⟨s0, s1, s2, s3⟩, _⟩ := blk4 HK3.out
           have hnw := World.new_ne w3 _ s0
           have HO3 := Lib.hid (ho3.mono (HW2.out.alloc HW2.out.size (.cells #[.int .i64 0, .int .i64 0, .slice none 0 0, .slice none 0 0] 25)).size)
           have HN3 := Lib.hid (own_below (HO2.out.alloc (.cells #[.int .i64 0, .int .i64 0, .slice none 0 0, .slice none 0 0] 25)) hb3)
           have HV3 := Lib.hid (blk_below (Blk.new w2 25 #[.int .i64 0, .int .i64 0, .slice none 0 0, .slice none 0 0]) hb3)
           obtain ⟨⟨t0, t1, t2, t3⟩, z0, z1, z2, z3⟩ := blk4 HV3.out
           clear ho3 hb3))
    · go_wp2_with fail
      go_meet
      exact ⟨w3.heap.size, AN, cN, AA, cA, rfl, HR3.out.lt, Blk.new _ _ _, HN3.out.alloc _, HO3.out.alloc _, HR3.out.alloc _, HW3.out.alloc HW3.out.size _⟩
    · go_wp2_with fail
      go_meet
      have hm := not_meet HV3.out HN3.out HO3.out HR3.out (Nat.ne_of_lt HR2.out.lt) HW3.out HW2.out.size (.int .i64 d.K) (.int .i64 d.S) (.slice AN d.N.length cN) (.slice AA d.A.length cA)
      exact ⟨w2.heap.size, AN, cN, AA, cA, rfl, HR2.out.lt, hm⟩
    · go_wp2_with fail
      go_meet
      have hm := not_meet HV3.out HN3.out HO3.out HR3.out (Nat.ne_of_lt HR1.out.lt) HW3.out HW1.out.size (.int .i64 d.K) (.int .i64 d.S) (.slice AN d.N.length cN) (.slice AA d.A.length cA)
      exact ⟨w1.heap.size, AN, cN, AA, cA, rfl, HR1.out.lt, hm⟩
  case rest =>
    obtain ⟨nb, AN, cN, AA, cA, rfl, hnb, HV, HN, HA, HR, HW⟩ := hcut
    obtain ⟨gA, capA, hAA, _, _⟩ := HA.out.form hA1
    obtain ⟨rfl, hcN⟩ : AA = some ⟨gA, 0, none⟩ ∧ True := ⟨by injection hAA, trivial⟩
    clear hAA hcN
    obtain ⟨⟨v0, v1, v2, v3⟩, _⟩ := blk4 HV.out
    go_wp2_with fail
    clear v0 v1 v2 v3
    go_loopw [5, 24] (fun _ i wr => ∃ j : Nat, j ≤ d.A.length ∧ i = .int .i64 j ∧ Hid (Blk wr nb 25 #[.int .i64 d.K, .int .i64 d.S, .slice AN d.N.length cN, .slice (some ⟨gA, 0, none⟩) d.A.length cA]) ∧
      Hid (wr.ownsRow w.heap.size 3 1 (.slice AN d.N.length cN) d.N.length (d.N.map (Value.int .i64))) ∧ Hid (wr.ownsRow w.heap.size 4 1 (.slice (some ⟨gA, 0, none⟩) d.A.length cA) d.A.length ((negTo d.A j).map Value.bool)) ∧
      Hid (Blk wr (B + 1) 25 #[.int .i64 0, .int .i64 0, .slice none 0 0, .slice none 0 0]) ∧ Hid (Below w.heap.size w wr)) (fun _ i _ => d.A.length - (intOf i).toNat)
    case atStart => exact ⟨0, Nat.zero_le _, rfl, HV, HN, by rw [negTo_zero]; exact HA, HR, HW⟩
    case round =>
      clear HV HN HA HR HW
      obtain ⟨j, hj, rfl, HV, HN, HA, HR, HW⟩ := hrel
      obtain ⟨⟨v0, v1, v2, v3⟩, _⟩ := blk4 HV.out
      by_cases hlt : j < d.A.length
      · obtain ⟨x, hx⟩ : ∃ x, d.A[j]? = some x := ⟨_, List.getElem?_eq_getElem hlt⟩
        have HX := Lib.hid hx; clear hx
        have qt : wr.cell? ⟨gA, j, none⟩ = some (.bool x) := by rw [HA.out.cellAt j (by omega), List.getElem?_map, negTo_at HX.out]; rfl
        have rt : wr.frozen? ⟨gA, j, none⟩ = false := HA.out.frozenAt j
        have hj0 : (0 : Int) ≤ j := by omega
        have hj1 : (j : Int) < d.A.length := by omega
        have hs := HA.out.stored j (.bool !x)
        rw [← List.map_set, negTo_set HX.out] at hs
        obtain ⟨hs1, hs2⟩ := hs
        have HS1 := Lib.hid hs1
        have HT := Lib.hid (Touch.ofGrown hs2)
        have HGA : Hid (w.heap.size ≤ gA) := (HA.out.lt gA rfl).1
        have hne1 : Hid (gA ≠ nb) := fun e => own_ne_blk HA.out HV.out (by decide) (by rw [← e]; rfl)
        have hne2 : Hid (gA ≠ B + 1) := fun e => own_ne_blk HA.out HR.out (by decide) (by rw [← e]; rfl)
        have hne3 : Hid ((Value.slice AN d.N.length cN).ownBlock ≠ some gA) := own_ne_own HN.out HA.out (by decide) rfl
        clear hs1 hs2
        go_wp2_with fail
        go_region
        go_wp2_with fail
        go_roundw
        case rel => exact ⟨j + 1, by omega, by go_num, (HV.out.touch HT.out (fun e => hne1.out (by injection e with e; exact e.symm))).drew, own_touch HN.out HT.out.drew (fun k hk e => hne3.out (hk.trans e)), HS1.out, (HR.out.touch HT.out (fun e => hne2.out (by injection e with e; exact e.symm))).drew, (HW.out.trans (HT.out.toBelow HW.out.size (fun k hk e => by injection e with e; have := HGA.out; omega))).drew⟩
        case measure => simp [intOf]; omega
      · have hjl : j = d.A.length := by omega
        subst hjl
        obtain ⟨⟨b0, b1, b2, b3⟩, c0, c1, c2, c3⟩ := blk4 HR.out
        go_wp2_with fail
        refine bodyPost_ret (v := .tuple #[dfaV d.K d.S AN d.N.length cN (some ⟨gA, 0, none⟩) d.A.length cA, .int .i64 0]) ?_ rfl ?_
        · simp [results, Try.results37, go_sem, b0, b1, b2, b3]
        · exact ⟨_, rfl, not_end HN.out HA.out HR.out HW.out HB.out _ _ _ _⟩

set_option maxHeartbeats 2000000 in
set_option maxRecDepth 100000 in
theorem not_no (d : D) (An Aa : Option Addr) (cn ca : Nat) (w : World) (hok : ¬ d.Ok) (hn2 : d.N.length ≤ 9223372036854775807) (ha2 : d.A.length ≤ 9223372036854775807)
    (hrn : Rd w w.heap.size An (d.N.map (Value.int .i64))) :
    Calls Try.prog 37 #[dfaV d.K d.S An d.N.length cn Aa d.A.length ca] w (Gives w zeroD 151) := by
  have c27 := fun (W : World) (hb : Below w.heap.size w W) => right_any d An Aa cn ca W hn2 ha2 (hrn.up (Nat.le_refl _) hb)
  rw [D.right_false.2 hok] at c27
  have C27 := Lib.hid c27
  have HOK := Lib.hid hok
  clear c27 hrn hok
  go_enter Try.func37, Try.ntmps37
  go_wp2_with fail
  refine (C27.out _ ?_).mono ?_
  · exact (((Below.refl _ _).alloc (Nat.le_refl _) _).alloc (by simp) _)
  rintro e w1 ⟨rfl, hb1⟩
  have hr1 := blk_below (Blk.new (w.alloc (.cells #[.int .i64 d.K, .int .i64 d.S, .slice An d.N.length cn, .slice Aa d.A.length ca] 25)) 25 #[.int .i64 0, .int .i64 0, .slice none 0 0, .slice none 0 0]) hb1
  have hw1 : Below w.heap.size w w1 := (((Below.refl _ _).alloc (Nat.le_refl _) _).alloc (by simp) _).trans (hb1.mono (by simp; omega))
  simp only [size_alloc_one] at hr1
  obtain ⟨⟨b0, b1, b2, b3⟩, c0, c1, c2, c3⟩ := blk4 hr1
  have HR1 := Lib.hid hr1; have HW1 := Lib.hid hw1
  clear hb1 hr1 hw1
  go_wp2_with fail
  refine bodyPost_ret (v := .tuple #[.agg #[.int .i64 0, .int .i64 0, .slice none 0 0, .slice none 0 0], .int .i64 151]) ?_ rfl ?_
  · simp [results, Try.results37, go_sem, b0, b1, b2, b3]
  · have hs := HR1.out.lt
    exact ⟨_, rfl, DfaR.zero _ _, HW1.out.trans ((touch4 w1 (w.heap.size + 1) _ _ _ _).toBelow (by omega) (fun k hk e => by omega))⟩
end Go.Proofs.Ytmpcoclgcldclaa
