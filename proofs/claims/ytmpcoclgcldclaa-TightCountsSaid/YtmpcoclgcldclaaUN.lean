/- The walk of the document's Count. -/
import Derived.Test.YtmpcoclgcldclaaUM
namespace Go.Proofs.Ytmpcoclgcldclaa
open Go.RowKit
attribute [local go_sem ↓] Go.wp_at_zero Go.wp_at_succ

theorem cntX_bd {d : D} {n : Nat} {s : Int} {x : Nat} (hx : x ≤ d.K.toNat) (hK : d.K ≤ 4) (hn : n ≤ 5) : cntX d n s x ≤ 4096 :=
  Nat.le_trans (cntX_le hx) (Nat.le_trans (Nat.pow_le_pow_left (show d.K.toNat ≤ 4 by omega) _) (Nat.le_trans (Nat.pow_le_pow_right (by omega) (show n + 1 ≤ 6 by omega)) (by decide)))
set_option maxHeartbeats 4000000 in
set_option maxRecDepth 100000 in
theorem refCount98 (d : D) (hok : d.Ok) (hK4 : d.K ≤ 4) : ∀ (n : Nat), n ≤ 5 → ∀ (s : Int), inR d s → ∀ (An Aa : Option Addr) (cn ca : Nat) (w : World), DIn w d An Aa →
    Calls Try.prog 98 #[dfaV d.K d.S An d.N.length cn Aa d.A.length ca, .int .i64 s, .int .i64 (n : Int)] w (Ret (.int .u64 ((cntN d n s : Nat) : Int)) w) := by
  intro n
  induction n with
  | zero =>
    intro _ s hs An Aa cn ca w hd
    unfold inR at hs
    obtain ⟨hs0, hs1⟩ := hs
    obtain ⟨ga, oa, va, rfl, hga, hca, hva⟩ := hd.ra.bool_ix hs0 hs1
    have hva' : d.acc s = va := hva
    have hc : cntN d 0 s = if va then 1 else 0 := by simp only [cntN]; rw [hva']
    rw [hc]
    have HW := Lib.hid (bel_new w (.cells #[.int .i64 d.K, .int .i64 d.S, .slice An d.N.length cn, .slice (some ⟨ga, oa, none⟩) d.A.length ca] 25))
    clear hva hva' hc hd
    cases va
    all_goals
      go_enter Try.func98, Try.ntmps98
      go_wp2_with fail
      go_ret
      exact ⟨rfl, HW.out⟩
  | succ n ih =>
    intro hn5 s hs An Aa cn ca w hd
    have HIH := Lib.hid (ih (by omega)); clear ih
    have HSR := Lib.hid hs
    unfold inR at hs
    obtain ⟨hs0, hs1⟩ := hs
    have HOK := Lib.hid hok
    have hA2 : d.A.length ≤ 65536 := hok.2.2.2.1
    have hK1 : 1 ≤ d.K := hok.1
    have HX0 := Lib.hid (HasD.new hd cn ca)
    have HW0 := Lib.hid (bel_new w (.cells #[.int .i64 d.K, .int .i64 d.S, .slice An d.N.length cn, .slice Aa d.A.length ca] 25))
    obtain ⟨m, hm⟩ : ∃ m : Int, m = ((n + 1 : Nat) : Int) := ⟨_, rfl⟩
    rw [← hm]
    have hn1 : (m == 0) = false := by rw [hm]; simp; omega
    have v4 : IntKind.i64.wrap (m - 1) = (n : Nat) := by rw [hm, IntKind.wrap_i64]; omega
    clear hm
    clear hd hok
    go_enter Try.func98, Try.ntmps98
    go_wp2_with fail
    go_loopw [7, 8] (fun sI xI wr => ∃ x : Nat, xI = .int .i64 x ∧ sI = .int .u64 ((cntX d n s x : Nat) : Int) ∧ (x : Int) ≤ d.K ∧ Hid (HasD wr w.heap.size d An cn Aa ca) ∧ Hid (Below w.heap.size w wr)) (fun _ xI _ => (d.K - intOf xI).toNat)
    case atStart => exact ⟨0, rfl, rfl, by omega, HX0, HW0⟩
    case round =>
      clear HX0 HW0
      obtain ⟨x, rfl, rfl, hxK, HX, HW⟩ := hrel
      obtain ⟨a0, a1, a2, a3⟩ := HX.out.cells
      have hbl := HX.out.lt
      by_cases hxl : (x : Int) < d.K
      · have hmb := HOK.out.mul_bd (s := s) ⟨hs0, hs1⟩
        have hix := HOK.out.idx (s := s) (x := (x : Int)) ⟨hs0, hs1⟩ ⟨by omega, hxl⟩
        obtain ⟨gn, on, q, hAn, hgn, hcq, hq⟩ := HX.out.din.rn.int_ix hix.1 hix.2
        have hqr := HOK.out.step_lt (s := s) (x := (x : Int)) ⟨hs0, hs1⟩ ⟨by omega, hxl⟩
        have hst : d.step s (x : Int) = q := hq
        rw [hst] at hqr
        have HQR : Hid (inR d q) := hqr
        have hbd := cntX_bd (d := d) (n := n) (s := s) (x := x + 1) (by omega) hK4 (by omega)
        have hsc := cntX_succ d n s x
        rw [hst] at hsc
        have HSC := Lib.hid hsc
        obtain ⟨c0, hc0⟩ : ∃ c0, c0 = cntX d n s x := ⟨_, rfl⟩
        obtain ⟨c1, hc1⟩ : ∃ c1, c1 = cntN d n q := ⟨_, rfl⟩
        rw [← hc0, ← hc1] at hsc
        rw [hsc] at hbd
        rw [← hc0]
        have HC98 := fun (W : World) (h : DIn W d An Aa) => HIH.out q HQR.out An Aa cn ca W h
        rw [← hc1] at HC98
        replace HC98 := Lib.hid HC98
        have HNX : Hid (Value.int .u64 ((c0 : Int) + (c1 : Int)) = .int .u64 ((cntX d n s (x + 1) : Nat) : Int)) := by show _ = _; rw [hsc, Int.natCast_add]
        subst hAn
        obtain ⟨hm1, hm2⟩ := hmb
        obtain ⟨hi1, hi2⟩ := hix
        have v1 : IntKind.i64.wrap (s * d.K) = s * d.K := by rw [IntKind.wrap_i64]; omega
        have v2 : IntKind.i64.wrap (s * d.K + x) = s * d.K + x := by rw [IntKind.wrap_i64]; omega
        have v3 : IntKind.u64.wrap ((c0 : Int) + (c1 : Int)) = (c0 : Int) + c1 := by rw [IntKind.wrap_u64]; omega
        clear hq hst hqr hsc hc0 hc1 HSC
        go_upto_region 9 with fail
        refine wp_region_peelF (S := fun w' => w'.cell? ⟨w.heap.size, 0, none⟩ = some (.int .i64 d.K) ∧ w'.cell? ⟨w.heap.size, 1, none⟩ = some (.int .i64 d.S) ∧ w'.cell? ⟨w.heap.size, 2, none⟩ = some (.slice (some ⟨gn, on, none⟩) d.N.length cn) ∧ w'.cell? ⟨w.heap.size, 3, none⟩ = some (.slice Aa d.A.length ca) ∧ w'.cell? ⟨gn, on + (s * d.K + x).toNat, none⟩ = some (.int .i64 q)) (List.cons_ne_nil _ _) (by kernel_rfl) (by kernel_rfl) (⟨a0, a1, a2, a3, hcq⟩) (fun hHeld => ?_)
        simp only [List.dropLast_cons_cons, List.dropLast_singleton, List.length_cons, List.length_nil, Nat.zero_add, Nat.reduceAdd]
        refine wpAnyH_take (i := 0) (v := ?_) rfl (by kernel_rfl) (by kernel_rfl) (by kernel_rfl) (fun _ _ _ h => h) (Or.inl ⟨by rfl, ?_⟩) (by assumption) ?_
        rotate_left 1
        · intro w hSw; (try dsimp only at hSw); go_simp; first | done | with_reducible rfl
        try simp only [Act.put]
        refine wpAnyH_take (i := 1) (v := ?_) rfl (by kernel_rfl) (by kernel_rfl) (by kernel_rfl) (fun _ _ _ h => h) (Or.inl ⟨by rfl, ?_⟩) (by assumption) ?_
        rotate_left 1
        · intro w hSw; (try dsimp only at hSw); go_simp; first | done | with_reducible rfl
        try simp only [Act.put]
        refine wpAnyH_take (i := 2) (v := ?_) rfl (by kernel_rfl) (by kernel_rfl) (by kernel_rfl) (fun _ _ _ h => h) (Or.inl ⟨by rfl, ?_⟩) (by assumption) ?_
        rotate_left 1
        · intro w hSw; (try dsimp only at hSw); go_simp; first | done | with_reducible rfl
        try simp only [Act.put]
        refine wpAnyH_take (i := 3) (v := ?_) rfl (by kernel_rfl) (by kernel_rfl) (by kernel_rfl) (fun _ _ _ h => h) (Or.inl ⟨by rfl, ?_⟩) (by assumption) ?_
        rotate_left 1
        · intro w hSw; (try dsimp only at hSw); go_simp; first | done | with_reducible rfl
        try simp only [Act.put]
        refine wpAnyH_take (i := 4) (v := ?_) rfl (by kernel_rfl) (by kernel_rfl) (by kernel_rfl) (fun _ _ _ h => h) (Or.inl ⟨by rfl, ?_⟩) (by assumption) ?_
        rotate_left 1
        · intro w hSw; (try dsimp only at hSw); go_simp; first | done | with_reducible rfl
        try simp only [Act.put]
        refine wpAnyH_take (i := 5) (v := ?_) rfl (by kernel_rfl) (by kernel_rfl) (by kernel_rfl) (fun _ _ _ h => h) (Or.inl ⟨by rfl, ?_⟩) (by assumption) ?_
        rotate_left 1
        · intro w hSw; (try dsimp only at hSw); go_simp; first | done | with_reducible rfl
        try simp only [Act.put]
        refine wpAnyH_take (i := 6) (v := ?_) rfl (by kernel_rfl) (by kernel_rfl) (by kernel_rfl) (fun _ _ _ h => h) (Or.inl ⟨by rfl, ?_⟩) (by assumption) ?_
        rotate_left 1
        · intro w hSw; (try dsimp only at hSw); go_simp; first | done | with_reducible rfl
        try simp only [Act.put]
        refine wpAnyH_take (i := 7) (v := ?_) rfl (by kernel_rfl) (by kernel_rfl) (by kernel_rfl) (fun _ _ _ h => h) (Or.inl ⟨by rfl, ?_⟩) (by assumption) ?_
        rotate_left 1
        · intro w hSw; (try dsimp only at hSw); go_simp; first | done | with_reducible rfl
        try simp only [Act.put]
        refine wpAnyH_take (i := 8) (v := ?_) rfl (by kernel_rfl) (by kernel_rfl) (by kernel_rfl) (fun _ _ _ h => h) (Or.inl ⟨by rfl, ?_⟩) (by assumption) ?_
        rotate_left 1
        · intro w hSw; (try dsimp only at hSw); go_simp; first | done | with_reducible rfl
        try simp only [Act.put]
        refine wpAnyH_take (i := 9) (v := ?_) rfl (by kernel_rfl) (by kernel_rfl) (by kernel_rfl) (fun _ _ _ h => h) (Or.inl ⟨by rfl, ?_⟩) (by assumption) ?_
        rotate_left 1
        · intro w hSw; (try dsimp only at hSw); go_simp; first | done | with_reducible rfl
        try simp only [Act.put]
        refine wpAnyH_take (i := 10) (v := ?_) rfl (by kernel_rfl) (by kernel_rfl) (by kernel_rfl) (fun _ _ _ h => h) (Or.inl ⟨by rfl, ?_⟩) (by assumption) ?_
        rotate_left 1
        · intro w hSw; (try dsimp only at hSw); go_simp; first | done | with_reducible rfl
        try simp only [Act.put]
        refine wpAnyH_take (i := 11) (v := ?_) rfl (by kernel_rfl) (by kernel_rfl) (by kernel_rfl) (fun _ _ _ h => h) (Or.inl ⟨by rfl, ?_⟩) (by assumption) ?_
        rotate_left 1
        · intro w hSw; (try dsimp only at hSw); go_simp; first | done | with_reducible rfl
        try simp only [Act.put]
        refine wpAnyH_take (i := 12) (v := ?_) rfl (by kernel_rfl) (by kernel_rfl) (by kernel_rfl) (fun _ _ _ h => h) (Or.inl ⟨by rfl, ?_⟩) (by assumption) ?_
        rotate_left 1
        · intro w hSw; (try dsimp only at hSw); go_simp; first | done | with_reducible rfl
        try simp only [Act.put]
        refine wpAnyH_take (i := 13) (v := ?_) rfl (by kernel_rfl) (by kernel_rfl) (by kernel_rfl) (fun _ _ _ h => h) (Or.inl ⟨by rfl, ?_⟩) (by assumption) ?_
        rotate_left 1
        · intro w hSw; (try dsimp only at hSw); go_simp; first | done | with_reducible rfl
        try simp only [Act.put]
        refine wpAnyH_ready (rs := [14]) (by kernel_rfl) (by simp) (AllReadyH.cons rfl (fun K hK => ?_) AllReadyH.nil)
        go_simp
        go_at_call 98
        refine (HC98.out _ HX.out.din.drew).mono ?_
        rintro e w5 ⟨rfl, hb⟩
        have HX5 := Lib.hid (HX.out.drew.up hb)
        have HW5 := Lib.hid (bel_step HW.out.drew hb)
        obtain ⟨b0, b1, b2, b3⟩ := HX5.out.cells
        have bq : w5.cell? ⟨gn, on + (s * d.K + x).toNat, none⟩ = some (.int .i64 q) := (hb.cell (p := ⟨gn, on + (s * d.K + x).toNat, none⟩) hgn).trans hcq
        clear hb
        refine hK.out _ _ (⟨b0, b1, b2, b3, bq⟩) (fun hHeld => ?_)
        clear hK K
        try simp only [Act.put]
        refine wpAnyH_take (i := 15) (v := ?_) rfl (by kernel_rfl) (by kernel_rfl) (by kernel_rfl) (fun _ _ _ h => h) (Or.inl ⟨by rfl, ?_⟩) (by assumption) ?_
        rotate_left 1
        · intro w hSw; (try dsimp only at hSw); go_simp; first | done | with_reducible rfl
        try simp only [Act.put]
        refine wpAnyH_done (by kernel_rfl) ?_ _
        clear hHeld
        show Oper.wp _ _ _ _ _ _
        go_simp
        go_wp2_with fail
        clear HC98 HIH hn1 v1 v2 v3 v4
        go_roundw
        case rel => exact ⟨x + 1, by go_num, HNX.out, by omega, HX5, HW5⟩
        case measure => simp [intOf]; omega
      · have hx : x = d.K.toNat := by omega
        subst hx
        have hall : cntX d n s d.K.toNat = cntN d (n + 1) s := cntX_all d n s
        have HALL := Lib.hid hall
        clear hall
        go_wp2_with fail
        go_ret
        exact ⟨by first | rfl | rw [HALL.out], HW.out⟩
/-- what the document counts -/
def refCntN (d : D) (n : Int) : Nat := if n < 0 then 0 else cntN d n.toNat d.S
set_option maxHeartbeats 2000000 in
set_option maxRecDepth 100000 in
theorem refCount_any (d : D) (n : Int) (An Aa : Option Addr) (cn ca : Nat) (w : World) (hd : DIn w d An Aa) (hok : d.Ok) (hK4 : d.K ≤ 4) (hn : n ≤ 5) :
    Calls Try.prog 61 #[dfaV d.K d.S An d.N.length cn Aa d.A.length ca, .int .i64 n] w (Ret (.int .u64 ((refCntN d n : Nat) : Int)) w) := by
  have HB := Lib.hid (HasD.new hd cn ca)
  have HW := Lib.hid (bel_new w (.cells #[.int .i64 d.K, .int .i64 d.S, .slice An d.N.length cn, .slice Aa d.A.length ca] 25))
  unfold refCntN
  by_cases h0 : n < 0
  · rw [if_pos h0]
    go_enter Try.func61, Try.ntmps61
    go_wp2_with fail
    go_ret
    exact ⟨rfl, HW.out⟩
  · rw [if_neg h0]
    obtain ⟨m, rfl⟩ := Int.eq_ofNat_of_zero_le (show 0 ≤ n by omega)
    rw [Int.toNat_natCast]
    have hs : inR d d.S := ⟨hok.2.2.2.2.2.1, hok.2.2.2.2.2.2.1⟩
    have C98 := Lib.hid (fun (W : World) (h : DIn W d An Aa) => refCount98 d hok hK4 m (by omega) d.S hs An Aa cn ca W h)
    clear hd hs hok
    go_enter Try.func61, Try.ntmps61
    go_wp2_with fail
    refine (C98.out _ HB.out.din).mono ?_
    rintro e w1 ⟨rfl, hb⟩
    go_wp2_with fail
    go_ret
    exact ⟨rfl, bel_step HW.out hb⟩
end Go.Proofs.Ytmpcoclgcldclaa
