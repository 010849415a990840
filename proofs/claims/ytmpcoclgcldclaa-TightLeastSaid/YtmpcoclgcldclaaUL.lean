/- The walk of tight's Tight. -/
import Derived.Test.YtmpcoclgcldclaaUK
import Derived.Test.YtmpcoclgcldclaaTC
import Derived.Test.YtmpcoclgcldclaaY3
import Derived.Test.YtmpcoclgcldclaaTP
namespace Go.Proofs.Ytmpcoclgcldclaa
open Go.RowKit
attribute [local go_sem ↓] Go.wp_at_zero Go.wp_at_succ

section
variable {w : World} {base g : Nat} {r : D} {v : Value} {x0 x1 x2 x3 : Value}
/-- a box that an automaton is put into -/
theorem stored_box (hD : DfaR w base v r) (hb : Blk w g 25 #[x0, x1, x2, x3]) (hl : r.N.length ≤ 9223372036854775807 ∧ r.A.length ≤ 9223372036854775807) :
    ∃ RN rn RA ra, v = dfaV r.K r.S RN r.N.length rn RA r.A.length ra ∧ HasD ((((w.setCell ⟨g, 0, none⟩ (.int .i64 r.K)).setCell ⟨g, 1, none⟩ (.int .i64 r.S)).setCell ⟨g, 2, none⟩ (.slice RN r.N.length rn)).setCell ⟨g, 3, none⟩ (.slice RA r.A.length ra)) g r RN rn RA ra := by
  obtain ⟨RN, rn, RA, ra, rfl, h1, h2⟩ := hD
  refine ⟨RN, rn, RA, ra, rfl, blkset4 hb _ _ _ _, hl.1, hl.2, Rd.of_own (own_touch h1 (touch4 w g _ _ _ _) fun k hk e => own_ne_blk h1 hb (by decide) (by rw [← e]; exact hk)) (Nat.le_refl _), Rd.of_own (own_touch h2 (touch4 w g _ _ _ _) fun k hk e => own_ne_blk h2 hb (by decide) (by rw [← e]; exact hk)) (Nat.le_refl _)⟩
end
theorem tight_no (d : D) (An Aa : Option Addr) (cn ca : Nat) (w : World) (hd : DIn w d An Aa) (hr : d.right = false) :
    Calls Try.prog 57 #[dfaV d.K d.S An d.N.length cn Aa d.A.length ca] w (Gives w zeroD 151) := by
  have C27 := Lib.hid (fun W (hb : Below w.heap.size w W) => right_c (hd.up hb) cn ca)
  rw [hr] at C27
  have HB := Lib.hid (bel_alloc (bel_new w (.cells #[.int .i64 d.K, .int .i64 d.S, .slice An d.N.length cn, .slice Aa d.A.length ca] 25)) (.cells #[.int .i64 0, .int .i64 0, .slice none 0 0, .slice none 0 0] 25))
  have HX := Lib.hid (Blk.new (w.alloc (.cells #[.int .i64 d.K, .int .i64 d.S, .slice An d.N.length cn, .slice Aa d.A.length ca] 25)) 25 #[.int .i64 0, .int .i64 0, .slice none 0 0, .slice none 0 0])
  clear hd
  go_enter Try.func57, Try.ntmps57
  go_wp2_with fail
  refine (C27.out _ HB.out).mono ?_
  rintro e w1 ⟨rfl, hb⟩
  have hb1 := blk_below HX.out hb
  simp only [size_alloc_one] at hb1
  obtain ⟨⟨p0, p1, p2, p3⟩, z0, z1, z2, z3⟩ := blk4 hb1
  have hl1 := hb1.lt
  have HBB := Lib.hid (bel_step HB.out hb)
  have hszb := hb.size
  simp only [size_alloc_one] at hszb
  clear hb hb1
  go_wp2_with fail
  refine bodyPost_ret (v := .tuple #[dfaV 0 0 none 0 0 none 0 0, .int .i64 151]) ?_ rfl ?_
  · simp [results, Try.results57, go_sem, p0, p1, p2, p3]
  · exact ⟨_, rfl, ⟨none, 0, none, 0, rfl, World.ownsRow_nil _ _ _ _, World.ownsRow_nil _ _ _ _⟩, HBB.out.trans ((touch4 w1 (w.heap.size + 1) _ _ _ _).toBelow (by omega) (fun j hj e => by omega))⟩
set_option maxHeartbeats 8000000 in
set_option maxRecDepth 100000 in
theorem tight_yes (d : D) (An Aa : Option Addr) (cn ca : Nat) (w : World) (hd : DIn w d An Aa) (hok : d.Ok) :
    Calls Try.prog 57 #[dfaV d.K d.S An d.N.length cn Aa d.A.length ca] w (fun e w' => ∃ x, TightOf d x ∧ Gives w x 0 e w') := by
  have C27 := Lib.hid (fun W (hb : Below w.heap.size w W) => right_c (hd.up hb) cn ca)
  rw [D.right_true.2 hok] at C27
  have HOK := Lib.hid hok; have HD := Lib.hid hd
  have hA2 : d.A.length ≤ 65536 := hok.2.2.2.1
  have HB := Lib.hid (bel_alloc (bel_new w (.cells #[.int .i64 d.K, .int .i64 d.S, .slice An d.N.length cn, .slice Aa d.A.length ca] 25)) (.cells #[.int .i64 0, .int .i64 0, .slice none 0 0, .slice none 0 0] 25))
  have HX := Lib.hid (Blk.new (w.alloc (.cells #[.int .i64 d.K, .int .i64 d.S, .slice An d.N.length cn, .slice Aa d.A.length ca] 25)) 25 #[.int .i64 0, .int .i64 0, .slice none 0 0, .slice none 0 0])
  have HY := Lib.hid ((Blk.new w 25 #[.int .i64 d.K, .int .i64 d.S, .slice An d.N.length cn, .slice Aa d.A.length ca]).alloc (.cells #[.int .i64 0, .int .i64 0, .slice none 0 0, .slice none 0 0] 25))
  clear hd hok
  go_enter Try.func57, Try.ntmps57
  go_wp2_with fail
  refine (C27.out _ HB.out).mono ?_
  rintro e w1 ⟨rfl, hb⟩
  replace HX := Lib.hid (blk_below HX.out hb)
  replace HY := Lib.hid (blk_below HY.out hb)
  replace HB := Lib.hid (bel_step HB.out hb)
  simp only [size_alloc_one] at HX
  have hszb := hb.size
  simp only [size_alloc_one] at hszb
  obtain ⟨⟨a0, a1, a2, a3⟩, _⟩ := blk4 HY.out
  have hal := HY.out.lt
  clear hb C27
  go_upto_region 3 with fail
  go_cut [4, 9, 10, 11, 12] (fun v4 _ _ _ _ wx => ∃ (cls L N : List Int) (rr : D) (g : Nat) (RN RA : Option Addr) (rn ra : Nat), v4 = .pointer (some ⟨g, 0, none⟩) ∧ Hid (rr = ordD d L N) ∧ Hid (OwnC d cls) ∧ Hid (OInv d (fun s t => gI cls s.toNat = gI cls t.toNat) L N L.length 0) ∧ Hid (HasD wx g rr RN rn RA ra) ∧ Hid (Below w.heap.size w wx) ∧ Hid (Blk wx (w.heap.size + 1) 25 #[.int .i64 0, .int .i64 0, .slice none 0 0, .slice none 0 0]) ∧ g ≠ w.heap.size + 1)
  case first =>
    refine wp_region_peelF (S := fun w' => w'.cell? ⟨w.heap.size, 0, none⟩ = some (.int .i64 d.K) ∧ w'.cell? ⟨w.heap.size, 1, none⟩ = some (.int .i64 d.S) ∧ w'.cell? ⟨w.heap.size, 2, none⟩ = some (.slice An d.N.length cn) ∧ w'.cell? ⟨w.heap.size, 3, none⟩ = some (.slice Aa d.A.length ca)) (List.cons_ne_nil _ _) (by kernel_rfl) (by kernel_rfl) (⟨a0, a1, a2, a3⟩) (fun hHeld => ?_)
    simp only [List.dropLast_cons_cons, List.dropLast_singleton, List.length_cons, List.length_nil, Nat.zero_add, Nat.reduceAdd]
    have HX0 := Lib.hid HX.out.drew
    have HY0 := Lib.hid HY.out.drew
    have HB0 := Lib.hid HB.out.drew
    have hs0 : w.heap.size + 1 + 1 ≤ w1.drew.heap.size := hszb
    clear HX HY HB hszb
    generalize w1.drew = W0 at HX0 HY0 HB0 hs0 hHeld ⊢
    refine wpAnyH_take (i := 0) (v := ?_) rfl (by kernel_rfl) (by kernel_rfl) (by kernel_rfl) (fun _ _ _ h => h) (Or.inl ⟨by rfl, ?_⟩) (by assumption) ?_
    rotate_left 1
    · intro w hSw; (try dsimp only at hSw); go_simp; first | done | with_reducible rfl
    try simp only [Act.put]
    refine wpAnyH_take (i := 1) (v := ?_) rfl (by kernel_rfl) (by kernel_rfl) (by kernel_rfl) (fun _ _ _ h => h) (Or.inl ⟨by rfl, ?_⟩) (by assumption) ?_
    rotate_left 1
    · intro w hSw; (try dsimp only at hSw); go_simp; first | done | with_reducible rfl
    try simp only [Act.put]
    refine wpAnyH_ready (rs := [2, 4]) (by kernel_rfl) (by simp) (AllReadyH.cons rfl (fun K hK => ?_) (AllReadyH.cons rfl (fun K hK => ?_) (AllReadyH.nil)))
    · go_simp
      go_at_call 94
      refine (own_any d An Aa cn ca _ hA2).mono ?_
      rintro e W1 ⟨OA, oc, cls, rfl, hocl, hoc, hown, hb⟩
      have HOC : Hid (OwnC d cls) := hoc
      have HOL : Hid (cls.length = d.A.length) := hocl
      have HOW1 : Hid (WIn W1 cls OA) := ⟨by rw [hocl]; omega, (by rw [← hocl] at hown; exact Rd.of_own hown (Nat.le_refl _))⟩
      have HX1 := Lib.hid (blk_below HX0.out hb)
      have HY1 := Lib.hid (blk_below HY0.out hb)
      have HB1 := Lib.hid (bel_step HB0.out hb)
      have hs1 : w.heap.size + 1 + 1 ≤ W1.heap.size := Nat.le_trans hs0 hb.size
      clear hocl hoc hown hb hHeld
      refine hK.out _ _ ((blk4 HY1.out).1) (fun hHeld => ?_)
      clear hK K
      try simp only [Act.put]
      refine wpAnyH_ready (rs := [3, 4]) (by kernel_rfl) (by simp) (AllReadyH.cons rfl (fun K hK => ?_) (AllReadyH.cons rfl (fun K hK => ?_) (AllReadyH.nil)))
      · go_simp
        go_at_call 93
        have h93 := ordered_any d cls An Aa OA cn ca oc W1 (HD.out.up HB1.out) HOW1.out HOK.out HOL.out
        rw [HOL.out] at h93
        refine h93.mono ?_
        rintro e W2 ⟨L, N, vr, hinv, rfl, hdr, hb⟩
        have HIN := Lib.hid hinv
        have HDR2 := Lib.hid hdr
        have HX2 := Lib.hid (blk_below HX1.out hb)
        have HY2 := Lib.hid (blk_below HY1.out hb)
        have HB2 := Lib.hid (bel_step HB1.out hb)
        have hs2 : w.heap.size + 1 + 1 ≤ W2.heap.size := Nat.le_trans hs1 hb.size
        clear hinv hdr hb hHeld h93
        refine hK.out _ _ ((blk4 HY2.out).1) (fun hHeld => ?_)
        clear hK K
        try simp only [Act.put]
        refine wpAnyH_ready (rs := [4]) (by kernel_rfl) (by simp) (AllReadyH.cons rfl (fun K hK => ?_) (AllReadyH.nil))
        · go_simp
          have HG3 := Lib.hid (Blk.new W2 25 #[.int .i64 0, .int .i64 0, .slice none 0 0, .slice none 0 0])
          have HX3 := Lib.hid (HX2.out.alloc (.cells #[.int .i64 0, .int .i64 0, .slice none 0 0, .slice none 0 0] 25))
          have HY3 := Lib.hid (HY2.out.alloc (.cells #[.int .i64 0, .int .i64 0, .slice none 0 0, .slice none 0 0] 25))
          have HB3 := Lib.hid (bel_alloc HB2.out (.cells #[.int .i64 0, .int .i64 0, .slice none 0 0, .slice none 0 0] 25))
          have HDR3 := Lib.hid (HDR2.out.touch (Touch.ofBelow (bel_new W2 (.cells #[.int .i64 0, .int .i64 0, .slice none 0 0, .slice none 0 0] 25))) (Nat.le_refl _) (fun j _ h1 h2 => by omega))
          have hgg : w.heap.size + 1 + 1 ≤ W2.heap.size := hs2
          have hs3 : w.heap.size + 1 + 1 ≤ (W2.alloc (.cells #[.int .i64 0, .int .i64 0, .slice none 0 0, .slice none 0 0] 25)).heap.size := by simp; omega
          clear hHeld
          generalize hV : W2.alloc (.cells #[.int .i64 0, .int .i64 0, .slice none 0 0, .slice none 0 0] 25) = W3 at HX3 HY3 HB3 hs3 HG3 HDR3 ⊢
          clear hV
          generalize W2.heap.size = g at hgg HG3 ⊢
          refine hK.out _ _ ((blk4 HY3.out).1) (fun hHeld => ?_)
          clear hK K
          try simp only [Act.put]
          refine wpAnyH_done (by kernel_rfl) ?_ _
          clear hHeld
          show Oper.wp _ _ _ _ _ _
          obtain ⟨RN, rn, RA, ra, rfl, hbox⟩ := stored_box HDR3.out HG3.out (D.Ok.sizes (HIN.out.ok HOK.out HOC.out.cong.refl))
          have HBOX := Lib.hid hbox
          have HTT := Lib.hid (touch4 W3 g (.int .i64 (ordD d L N).K) (.int .i64 (ordD d L N).S) (.slice RN (ordD d L N).N.length rn) (.slice RA (ordD d L N).A.length ra))
          obtain ⟨⟨g0, g1, g2, g3⟩, y0, y1, y2, y3⟩ := blk4 HG3.out
          have hgl := HG3.out.lt
          obtain ⟨rr, hrr⟩ : ∃ rr, rr = ordD d L N := ⟨_, rfl⟩
          have HRR := Lib.hid hrr
          rw [← hrr] at HBOX HTT ⊢
          clear hbox hrr
          go_simp
          go_wp2_with fail
          go_meet
          case rel => exact ⟨cls, L, N, rr, g, RN, RA, rn, ra, rfl, HRR, HOC, HIN, HBOX, HB3.out.trans (HTT.out.toBelow HB3.out.size (fun j hj e => by omega)), HX3.out.touch HTT.out (by omega), by omega⟩
      · go_simp
        have HG2 := Lib.hid (Blk.new W1 25 #[.int .i64 0, .int .i64 0, .slice none 0 0, .slice none 0 0])
        have HX2 := Lib.hid (HX1.out.alloc (.cells #[.int .i64 0, .int .i64 0, .slice none 0 0, .slice none 0 0] 25))
        have HY2 := Lib.hid (HY1.out.alloc (.cells #[.int .i64 0, .int .i64 0, .slice none 0 0, .slice none 0 0] 25))
        have HB2 := Lib.hid (bel_alloc HB1.out (.cells #[.int .i64 0, .int .i64 0, .slice none 0 0, .slice none 0 0] 25))
        have HOW2 := Lib.hid (HOW1.out.alloc (.cells #[.int .i64 0, .int .i64 0, .slice none 0 0, .slice none 0 0] 25))
        have hgg : w.heap.size + 1 + 1 ≤ W1.heap.size := hs1
        have hs2 : w.heap.size + 1 + 1 ≤ (W1.alloc (.cells #[.int .i64 0, .int .i64 0, .slice none 0 0, .slice none 0 0] 25)).heap.size := by simp; omega
        clear hHeld
        generalize hV : W1.alloc (.cells #[.int .i64 0, .int .i64 0, .slice none 0 0, .slice none 0 0] 25) = W2 at HX2 HY2 HB2 hs2 HG2 HOW2 ⊢
        clear hV
        generalize W1.heap.size = g at hgg HG2 ⊢
        refine hK.out _ _ ((blk4 HY2.out).1) (fun hHeld => ?_)
        clear hK K
        try simp only [Act.put]
        refine wpAnyH_ready (rs := [3]) (by kernel_rfl) (by simp) (AllReadyH.cons rfl (fun K hK => ?_) (AllReadyH.nil))
        · go_simp
          go_at_call 93
          have h93 := ordered_any d cls An Aa OA cn ca oc W2 (HD.out.up HB2.out) HOW2.out HOK.out HOL.out
          rw [HOL.out] at h93
          refine h93.mono ?_
          rintro e W3 ⟨L, N, vr, hinv, rfl, hdr, hb⟩
          have HIN := Lib.hid hinv
          have HDR3 := Lib.hid hdr
          have HX3 := Lib.hid (blk_below HX2.out hb)
          have HY3 := Lib.hid (blk_below HY2.out hb)
          have HB3 := Lib.hid (bel_step HB2.out hb)
          have HG3 := Lib.hid (blk_below HG2.out hb)
          have hs3 : w.heap.size + 1 + 1 ≤ W3.heap.size := Nat.le_trans hs2 hb.size
          clear hinv hdr hb hHeld h93
          refine hK.out _ _ ((blk4 HY3.out).1) (fun hHeld => ?_)
          clear hK K
          try simp only [Act.put]
          refine wpAnyH_done (by kernel_rfl) ?_ _
          clear hHeld
          show Oper.wp _ _ _ _ _ _
          obtain ⟨RN, rn, RA, ra, rfl, hbox⟩ := stored_box HDR3.out HG3.out (D.Ok.sizes (HIN.out.ok HOK.out HOC.out.cong.refl))
          have HBOX := Lib.hid hbox
          have HTT := Lib.hid (touch4 W3 g (.int .i64 (ordD d L N).K) (.int .i64 (ordD d L N).S) (.slice RN (ordD d L N).N.length rn) (.slice RA (ordD d L N).A.length ra))
          obtain ⟨⟨g0, g1, g2, g3⟩, y0, y1, y2, y3⟩ := blk4 HG3.out
          have hgl := HG3.out.lt
          obtain ⟨rr, hrr⟩ : ∃ rr, rr = ordD d L N := ⟨_, rfl⟩
          have HRR := Lib.hid hrr
          rw [← hrr] at HBOX HTT ⊢
          clear hbox hrr
          go_simp
          go_wp2_with fail
          go_meet
          case rel => exact ⟨cls, L, N, rr, g, RN, RA, rn, ra, rfl, HRR, HOC, HIN, HBOX, HB3.out.trans (HTT.out.toBelow HB3.out.size (fun j hj e => by omega)), HX3.out.touch HTT.out (by omega), by omega⟩
    · go_simp
      have HG1 := Lib.hid (Blk.new W0 25 #[.int .i64 0, .int .i64 0, .slice none 0 0, .slice none 0 0])
      have HX1 := Lib.hid (HX0.out.alloc (.cells #[.int .i64 0, .int .i64 0, .slice none 0 0, .slice none 0 0] 25))
      have HY1 := Lib.hid (HY0.out.alloc (.cells #[.int .i64 0, .int .i64 0, .slice none 0 0, .slice none 0 0] 25))
      have HB1 := Lib.hid (bel_alloc HB0.out (.cells #[.int .i64 0, .int .i64 0, .slice none 0 0, .slice none 0 0] 25))
      have hgg : w.heap.size + 1 + 1 ≤ W0.heap.size := hs0
      have hs1 : w.heap.size + 1 + 1 ≤ (W0.alloc (.cells #[.int .i64 0, .int .i64 0, .slice none 0 0, .slice none 0 0] 25)).heap.size := by simp; omega
      clear hHeld
      generalize hV : W0.alloc (.cells #[.int .i64 0, .int .i64 0, .slice none 0 0, .slice none 0 0] 25) = W1 at HX1 HY1 HB1 hs1 HG1 ⊢
      clear hV
      generalize W0.heap.size = g at hgg HG1 ⊢
      refine hK.out _ _ ((blk4 HY1.out).1) (fun hHeld => ?_)
      clear hK K
      try simp only [Act.put]
      refine wpAnyH_ready (rs := [2]) (by kernel_rfl) (by simp) (AllReadyH.cons rfl (fun K hK => ?_) (AllReadyH.nil))
      · go_simp
        go_at_call 94
        refine (own_any d An Aa cn ca _ hA2).mono ?_
        rintro e W2 ⟨OA, oc, cls, rfl, hocl, hoc, hown, hb⟩
        have HOC : Hid (OwnC d cls) := hoc
        have HOL : Hid (cls.length = d.A.length) := hocl
        have HOW2 : Hid (WIn W2 cls OA) := ⟨by rw [hocl]; omega, (by rw [← hocl] at hown; exact Rd.of_own hown (Nat.le_refl _))⟩
        have HX2 := Lib.hid (blk_below HX1.out hb)
        have HY2 := Lib.hid (blk_below HY1.out hb)
        have HB2 := Lib.hid (bel_step HB1.out hb)
        have HG2 := Lib.hid (blk_below HG1.out hb)
        have hs2 : w.heap.size + 1 + 1 ≤ W2.heap.size := Nat.le_trans hs1 hb.size
        clear hocl hoc hown hb hHeld
        refine hK.out _ _ ((blk4 HY2.out).1) (fun hHeld => ?_)
        clear hK K
        try simp only [Act.put]
        refine wpAnyH_ready (rs := [3]) (by kernel_rfl) (by simp) (AllReadyH.cons rfl (fun K hK => ?_) (AllReadyH.nil))
        · go_simp
          go_at_call 93
          have h93 := ordered_any d cls An Aa OA cn ca oc W2 (HD.out.up HB2.out) HOW2.out HOK.out HOL.out
          rw [HOL.out] at h93
          refine h93.mono ?_
          rintro e W3 ⟨L, N, vr, hinv, rfl, hdr, hb⟩
          have HIN := Lib.hid hinv
          have HDR3 := Lib.hid hdr
          have HX3 := Lib.hid (blk_below HX2.out hb)
          have HY3 := Lib.hid (blk_below HY2.out hb)
          have HB3 := Lib.hid (bel_step HB2.out hb)
          have HG3 := Lib.hid (blk_below HG2.out hb)
          have hs3 : w.heap.size + 1 + 1 ≤ W3.heap.size := Nat.le_trans hs2 hb.size
          clear hinv hdr hb hHeld h93
          refine hK.out _ _ ((blk4 HY3.out).1) (fun hHeld => ?_)
          clear hK K
          try simp only [Act.put]
          refine wpAnyH_done (by kernel_rfl) ?_ _
          clear hHeld
          show Oper.wp _ _ _ _ _ _
          obtain ⟨RN, rn, RA, ra, rfl, hbox⟩ := stored_box HDR3.out HG3.out (D.Ok.sizes (HIN.out.ok HOK.out HOC.out.cong.refl))
          have HBOX := Lib.hid hbox
          have HTT := Lib.hid (touch4 W3 g (.int .i64 (ordD d L N).K) (.int .i64 (ordD d L N).S) (.slice RN (ordD d L N).N.length rn) (.slice RA (ordD d L N).A.length ra))
          obtain ⟨⟨g0, g1, g2, g3⟩, y0, y1, y2, y3⟩ := blk4 HG3.out
          have hgl := HG3.out.lt
          obtain ⟨rr, hrr⟩ : ∃ rr, rr = ordD d L N := ⟨_, rfl⟩
          have HRR := Lib.hid hrr
          rw [← hrr] at HBOX HTT ⊢
          clear hbox hrr
          go_simp
          go_wp2_with fail
          go_meet
          case rel => exact ⟨cls, L, N, rr, g, RN, RA, rn, ra, rfl, HRR, HOC, HIN, HBOX, HB3.out.trans (HTT.out.toBelow HB3.out.size (fun j hj e => by omega)), HX3.out.touch HTT.out (by omega), by omega⟩
  case rest =>
    obtain ⟨cls, L, N, rr, g, RN, RA, rn, ra, rfl, HRR, HOC, HIN, HBOX, HB2, HX2, hgx⟩ := hcut
    have HOKR : Hid rr.Ok := by
      show rr.Ok
      rw [HRR.out]; exact HIN.out.ok HOK.out HOC.out.cong.refl
    obtain ⟨c0, c1, c2, c3⟩ := HBOX.out.cells
    clear HX HY HB a0 a1 a2 a3 hal hszb
    go_upto_region 4 with fail
    refine wp_region_peelF (S := fun w' => w'.cell? ⟨g, 0, none⟩ = some (.int .i64 rr.K) ∧ w'.cell? ⟨g, 1, none⟩ = some (.int .i64 rr.S) ∧ w'.cell? ⟨g, 2, none⟩ = some (.slice RN rr.N.length rn) ∧ w'.cell? ⟨g, 3, none⟩ = some (.slice RA rr.A.length ra)) (List.cons_ne_nil _ _) (by kernel_rfl) (by kernel_rfl) (⟨c0, c1, c2, c3⟩) (fun hHeld => ?_)
    simp only [List.dropLast_cons_cons, List.dropLast_singleton, List.length_cons, List.length_nil, Nat.zero_add, Nat.reduceAdd]
    refine wpAnyH_take (i := 0) (v := ?_) rfl (by kernel_rfl) (by kernel_rfl) (by kernel_rfl) (fun _ _ _ h => h) (Or.inl ⟨by rfl, ?_⟩) (by assumption) ?_
    rotate_left 1
    · intro w hSw; (try dsimp only at hSw); go_simp; first | done | with_reducible rfl
    try simp only [Act.put]
    refine wpAnyH_take (i := 1) (v := ?_) rfl (by kernel_rfl) (by kernel_rfl) (by kernel_rfl) (fun _ _ _ h => h) (Or.inl ⟨by rfl, ?_⟩) (by assumption) ?_
    rotate_left 1
    · intro w hSw; (try dsimp only at hSw); go_simp; first | done | with_reducible rfl
    try simp only [Act.put]
    refine wpAnyH_ready (rs := [2]) (by kernel_rfl) (by simp) (AllReadyH.cons rfl (fun K hK => ?_) AllReadyH.nil)
    go_simp
    go_at_call 95
    refine (classes_any rr RN RA rn ra _ HBOX.out.drew.din HOKR.out).mono ?_
    rintro e W1 ⟨OA, oc, cls2, rfl, hcl2, hown, hb, hcong, hfull⟩
    have HBOX1 := Lib.hid (HBOX.out.drew.up hb)
    have HB1 := Lib.hid (bel_step HB2.out.drew hb)
    have HX1 := Lib.hid (blk_below HX2.out.drew hb)
    have HOW : Hid (WIn W1 cls2 OA) := ⟨by have := HOKR.out.2.2.2.1; omega, Rd.of_own hown (Nat.le_refl _)⟩
    have HCG := Lib.hid hcong; have HFU := Lib.hid hfull; have HCL := Lib.hid hcl2
    clear hcl2 hown hb hcong hfull
    refine hK.out _ _ (HBOX1.out.cells) (fun hHeld => ?_)
    clear hK K
    try simp only [Act.put]
    refine wpAnyH_ready (rs := [3]) (by kernel_rfl) (by simp) (AllReadyH.cons rfl (fun K hK => ?_) AllReadyH.nil)
    go_simp
    go_at_call 93
    refine (ordered_any rr cls2 RN RA OA rn ra oc _ HBOX1.out.din HOW.out HOKR.out HCL.out).mono ?_
    rintro e W2 ⟨L2, N2, vr, hinv2, rfl, hdr2, hb⟩
    have HT : Hid (TightOf d (ordD rr L2 N2)) := by
      have h1 := hinv2; have h2 := HCG.out; have h3 := HFU.out
      rw [HRR.out] at h1 h2 h3
      show TightOf d (ordD rr L2 N2)
      rw [HRR.out]
      exact tight_of HOK.out HOC.out HIN.out h1 h2 h3
    have HBOX3 := Lib.hid (HBOX1.out.up hb)
    have HB3 := Lib.hid (bel_step HB1.out hb)
    have HX3 := Lib.hid (blk_below HX1.out hb)
    obtain ⟨x, hx⟩ : ∃ x, x = ordD rr L2 N2 := ⟨_, rfl⟩
    rw [← hx] at HT hdr2
    have HDR : Hid (DfaR W2 w.heap.size vr x) := hdr2.touch (Touch.refl (fun _ => False) W2) HB1.out.size (fun _ _ _ h => h)
    clear hinv2 hdr2 hb hx HBOX1 HB1 HX1 HOW HCG HFU HCL
    refine hK.out _ _ (HBOX3.out.cells) (fun hHeld => ?_)
    clear hK K
    try simp only [Act.put]
    refine wpAnyH_ready (rs := [4]) (by kernel_rfl) (by simp) (AllReadyH.cons rfl (fun K hK => ?_) AllReadyH.nil)
    obtain ⟨XN, XA, xn, xa, rfl, ho1, ho2⟩ := HDR.out
    obtain ⟨⟨p0, p1, p2, p3⟩, z0, z1, z2, z3⟩ := blk4 HX3.out
    have hl3 := HX3.out.lt
    have HTT := touch4 W2 (w.heap.size + 1) (.int .i64 x.K) (.int .i64 x.S) (.slice XN x.N.length XA) (.slice xn x.A.length xa)
    have HXS := Lib.hid (blkset4 HX3.out (.int .i64 x.K) (.int .i64 x.S) (.slice XN x.N.length XA) (.slice xn x.A.length xa))
    have HBS := Lib.hid (HB3.out.trans (HTT.toBelow HB3.out.size (fun j hj e => by omega)))
    have HGS := Lib.hid (HBOX3.out.box.touch HTT hgx)
    have HO1 := Lib.hid (own_touch ho1 HTT fun k hk e => own_ne_blk ho1 HX3.out (by decide) (by rw [← e]; exact hk))
    have HO2 := Lib.hid (own_touch ho2 HTT fun k hk e => own_ne_blk ho2 HX3.out (by decide) (by rw [← e]; exact hk))
    clear ho1 ho2 HTT HDR
    go_simp
    generalize (((W2.setCell ⟨w.heap.size + 1, 0, none⟩ (.int .i64 x.K)).setCell ⟨w.heap.size + 1, 1, none⟩ (.int .i64 x.S)).setCell ⟨w.heap.size + 1, 2, none⟩ (.slice XN x.N.length XA)).setCell ⟨w.heap.size + 1, 3, none⟩ (.slice xn x.A.length xa) = W3 at HXS HBS HGS HO1 HO2 ⊢
    clear p0 p1 p2 p3 z0 z1 z2 z3 hl3
    refine hK.out _ _ ((blk4 HGS.out).1) (fun hHeld => ?_)
    clear hK K
    try simp only [Act.put]
    refine wpAnyH_done (by kernel_rfl) ?_ _
    clear hHeld
    show Oper.wp _ _ _ _ _ _
    obtain ⟨⟨r0, r1, r2, r3⟩, _⟩ := blk4 HXS.out
    have hlr := HXS.out.lt
    go_simp
    go_wp2_with fail
    refine bodyPost_ret (v := .tuple #[dfaV x.K x.S XN x.N.length XA xn x.A.length xa, .int .i64 0]) ?_ rfl ?_
    · simp [results, Try.results57, go_sem, r0, r1, r2, r3]
    · exact ⟨x, HT.out, _, rfl, ⟨XN, XA, xn, xa, rfl, HO1.out, HO2.out⟩, HBS.out⟩
end Go.Proofs.Ytmpcoclgcldclaa
