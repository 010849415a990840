/- The walk of the law TightLeast. -/
import Derived.Test.YtmpcoclgcldclaaTD
import Derived.Test.YtmpcoclgcldclaaUM
import Derived.Test.YtmpcoclgcldclaaUJ
import Derived.Test.YtmpcoclgcldclaaPeel
import Derived.Handy
import Derived.StillTailTactics
import Derived.Deep.RegionHeld3
import Derived.Deep.DeepCutAuto
namespace Go.Proofs.Ytmpcoclgcldclaa
open Go.RowKit
attribute [local go_sem ↓] Go.wp_at_zero Go.wp_at_succ

/-- the first s states' places tell what they told -/
structure TurnA (d : D) (t : Int) (A : List Bool) (s : Nat) : Prop where
  len : A.length = d.A.length
  put : ∀ i : Nat, i < s → i < d.A.length → uAt A (turnI d.A.length t (i : Int)).toNat = d.acc (i : Int)
/-- .. and go where they went, the state s by its first x symbols -/
structure TurnN (d : D) (t : Int) (N : List Int) (s x : Nat) : Prop where
  len : N.length = d.N.length
  put : ∀ i y : Nat, i < d.A.length → (y : Int) < d.K → (i < s ∨ (i = s ∧ y < x)) → gI N (turnI d.A.length t (i : Int) * d.K + (y : Int)).toNat = turnI d.A.length t (d.step (i : Int) (y : Int))
section
variable {d : D} {t : Int} {A : List Bool} {N : List Int} {s x : Nat}
theorem TurnA.init (d : D) (t : Int) : TurnA d t (List.replicate d.A.length false) 0 := ⟨by simp, fun i h => by omega⟩
theorem TurnN.init (d : D) (t : Int) : TurnN d t (List.replicate d.N.length 0) 0 0 := ⟨by simp, fun i y _ _ h => by omega⟩
theorem TurnA.step (h : TurnA d t A s) (hs : s < d.A.length) : TurnA d t (A.set (turnI d.A.length t (s : Int)).toNat (d.acc (s : Int))) (s + 1) where
  len := by rw [List.length_set]; exact h.len
  put := fun i hi hi' => by
    have r1 := turnI_rng (n := d.A.length) (by omega) t (s : Int)
    have r2 := turnI_rng (n := d.A.length) (by omega) t (i : Int)
    by_cases e : (turnI d.A.length t (s : Int)).toNat = (turnI d.A.length t (i : Int)).toNat
    · have : (s : Int) = (i : Int) := turnI_inj (n := d.A.length) (t := t) ⟨by omega, by omega⟩ ⟨by omega, by omega⟩ (by omega)
      have : s = i := by omega
      subst this
      rw [uAt_set_same (by rw [h.len]; omega)]
    · rw [uAt_set_ne e]
      refine h.put i ?_ hi'
      by_cases e2 : i = s
      · subst e2; exact absurd rfl e
      · omega
theorem TurnN.step (h : TurnN d t N s x) (hd : d.Ok) (hs : s < d.A.length) (hx : (x : Int) < d.K) : TurnN d t (N.set (turnI d.A.length t (s : Int) * d.K + (x : Int)).toNat (turnI d.A.length t (d.step (s : Int) (x : Int)))) s (x + 1) where
  len := by rw [List.length_set]; exact h.len
  put := fun i y hi hy hc => by
    have r1 := turnI_rng (n := d.A.length) (by omega) t (s : Int)
    have r2 := turnI_rng (n := d.A.length) (by omega) t (i : Int)
    by_cases e : (turnI d.A.length t (s : Int) * d.K + (x : Int)).toNat = (turnI d.A.length t (i : Int) * d.K + (y : Int)).toNat
    · obtain ⟨e1, e2⟩ := ix_inj hd r1 r2 ⟨by omega, hx⟩ ⟨by omega, hy⟩ e
      have : (s : Int) = (i : Int) := turnI_inj (n := d.A.length) (t := t) ⟨by omega, by omega⟩ ⟨by omega, by omega⟩ e1
      have e3 : s = i := by omega
      have e4 : x = y := by omega
      subst e3 e4
      rw [gI_set_same]
      have := hd.idx (s := turnI d.A.length t (s : Int)) (x := (x : Int)) r1 ⟨by omega, hx⟩
      rw [h.len]; omega
    · rw [gI_set_ne e]
      refine h.put i y hi hy ?_
      rcases hc with hc | ⟨rfl, hc⟩
      · exact .inl hc
      · refine .inr ⟨rfl, ?_⟩
        by_cases e2 : y = x
        · subst e2; exact absurd rfl e
        · omega
theorem TurnN.next (h : TurnN d t N s x) (hx : d.K ≤ (x : Int)) : TurnN d t N (s + 1) 0 where
  len := h.len
  put := fun i y hi hy hc => h.put i y hi hy (by omega)
theorem turn_of (hd : d.Ok) (hA : TurnA d t A d.A.length) (hN : TurnN d t N d.A.length 0) : TurnOf d { K := d.K, S := turnI d.A.length t d.S, N := N, A := A } (turnI d.A.length t) where
  k := rfl
  s := rfl
  rng := fun s hs => by
    have r1 := turnI_rng (n := d.A.length) (by have := hd.2.2.1; omega) t s
    show _ ∧ _ < ((A.length : Nat) : Int)
    rw [hA.len]; exact r1
  acc := fun s hs => by
    obtain ⟨i, rfl⟩ := Int.eq_ofNat_of_zero_le hs.1
    have h2 : (i : Int) < d.A.length := hs.2
    exact hA.put i (by omega) (by omega)
  step := fun s x hs hx => by
    obtain ⟨i, rfl⟩ := Int.eq_ofNat_of_zero_le hs.1
    obtain ⟨y, rfl⟩ := Int.eq_ofNat_of_zero_le hx.1
    have h2 : (i : Int) < d.A.length := hs.2
    exact hN.put i y (by omega) hx.2 (.inl (by omega))
end

/-- the box of d in block w.heap.size, the other one in go, its rows in gn and ga -/
structure LW (w wr : World) (d : D) (An : Option Addr) (cn : Nat) (Aa : Option Addr) (ca go gn ga : Nat) (S2 : Int) (N2 : List Int) (A2 : List Bool) : Prop where
  xd : BlkD wr w.heap.size d An cn Aa ca
  xo : Blk wr go 25 #[.int .i64 d.K, .int .i64 S2, .slice (some ⟨gn, 0, none⟩) d.N.length d.N.length, .slice (some ⟨ga, 0, none⟩) d.A.length d.A.length]
  xn : wr.ownsRow (w.heap.size + 1) 3 1 (.slice (some ⟨gn, 0, none⟩) d.N.length d.N.length) d.N.length (N2.map (Value.int .i64))
  xa : wr.ownsRow (w.heap.size + 1) 4 1 (.slice (some ⟨ga, 0, none⟩) d.A.length d.A.length) d.A.length (A2.map Value.bool)
  xb : Below w.heap.size w wr
section
variable {w wr : World} {d : D} {An Aa : Option Addr} {cn ca go gn ga : Nat} {S2 : Int} {N2 : List Int} {A2 : List Bool}
theorem LW.drew (h : LW w wr d An cn Aa ca go gn ga S2 N2 A2) : LW w wr.drew d An cn Aa ca go gn ga S2 N2 A2 := ⟨h.xd, h.xo, h.xn, h.xa, h.xb.drew⟩
theorem LW.putA (h : LW w wr d An cn Aa ca go gn ga S2 N2 A2) (p : Nat) (x : Bool) : LW w (wr.setCell ⟨ga, p, none⟩ (.bool x)) d An cn Aa ca go gn ga S2 N2 (A2.set p x) where
  xd := h.xd.far (fun e => own_ne_blk h.xa h.xd (by decide) (by show some ga = _; rw [e])) _
  xo := h.xo.far (fun e => own_ne_blk h.xa h.xo (by decide) (by show some ga = _; rw [e])) _
  xn := own_touch h.xn (Touch.ofGrown (h.xa.stored p (.bool x)).2) (fun k hk e => own_ne_own h.xn h.xa (by decide) e.symm hk)
  xa := by rw [List.map_set]; exact (h.xa.stored p _).1
  xb := h.xb.setCell (p := ⟨ga, p, none⟩) (by have := (h.xa.lt ga rfl).1; show w.heap.size ≤ ga; omega) _
theorem LW.putN (h : LW w wr d An cn Aa ca go gn ga S2 N2 A2) (p : Nat) (x : Int) : LW w (wr.setCell ⟨gn, p, none⟩ (.int .i64 x)) d An cn Aa ca go gn ga S2 (N2.set p x) A2 where
  xd := h.xd.far (fun e => own_ne_blk h.xn h.xd (by decide) (by show some gn = _; rw [e])) _
  xo := h.xo.far (fun e => own_ne_blk h.xn h.xo (by decide) (by show some gn = _; rw [e])) _
  xn := by rw [List.map_set]; exact (h.xn.stored p _).1
  xa := own_touch h.xa (Touch.ofGrown (h.xn.stored p (.int .i64 x)).2) (fun k hk e => own_ne_own h.xa h.xn (by decide) e.symm hk)
  xb := h.xb.setCell (p := ⟨gn, p, none⟩) (by have := (h.xn.lt gn rfl).1; show w.heap.size ≤ gn; omega) _
theorem LW.start {x0 x1 x2 x3 : Value} (hd : BlkD wr w.heap.size d An cn Aa ca) (ho : Blk wr go 25 #[x0, x1, x2, x3]) (hgo : w.heap.size < go) (hn : wr.ownsRow (w.heap.size + 1) 3 1 (.slice (some ⟨gn, 0, none⟩) d.N.length d.N.length) d.N.length (List.replicate d.N.length (.int .i64 0)))
    (ha : wr.ownsRow (w.heap.size + 1) 4 1 (.slice (some ⟨ga, 0, none⟩) d.A.length d.A.length) d.A.length (List.replicate d.A.length (.bool false))) (hb : Below w.heap.size w wr) (S2 : Int) :
    LW w ((((wr.setCell ⟨go, 0, none⟩ (.int .i64 d.K)).setCell ⟨go, 1, none⟩ (.int .i64 S2)).setCell ⟨go, 2, none⟩ (.slice (some ⟨gn, 0, none⟩) d.N.length d.N.length)).setCell ⟨go, 3, none⟩ (.slice (some ⟨ga, 0, none⟩) d.A.length d.A.length)) d An cn Aa ca go gn ga S2 (List.replicate d.N.length 0) (List.replicate d.A.length false) where
  xd := hd.touch (touch4 wr go _ _ _ _) (by omega)
  xo := blkset4 ho _ _ _ _
  xn := by rw [List.map_replicate]; exact own_touch hn (touch4 wr go _ _ _ _) (fun k hk e => own_ne_blk hn ho (by decide) (by rw [← e]; exact hk))
  xa := by rw [List.map_replicate]; exact own_touch ha (touch4 wr go _ _ _ _) (fun k hk e => own_ne_blk ha ho (by decide) (by rw [← e]; exact hk))
  xb := hb.trans ((touch4 wr go _ _ _ _).toBelow hb.size (fun j hj e => by omega))
theorem LW.turned (h : LW w wr d An cn Aa ca go gn ga S2 N2 A2) (hN : N2.length = d.N.length) (hA : A2.length = d.A.length) (hl : d.N.length ≤ 9223372036854775807 ∧ d.A.length ≤ 9223372036854775807) :
    HasD wr go { K := d.K, S := S2, N := N2, A := A2 } (some ⟨gn, 0, none⟩) d.N.length (some ⟨ga, 0, none⟩) d.A.length := by
  refine ⟨?_, by show N2.length ≤ _; omega, by show A2.length ≤ _; omega, Rd.of_own h.xn (Nat.le_refl _), Rd.of_own h.xa (Nat.le_refl _)⟩
  show Blk wr go 25 #[.int .i64 d.K, .int .i64 S2, .slice (some ⟨gn, 0, none⟩) N2.length d.N.length, .slice (some ⟨ga, 0, none⟩) A2.length d.A.length]
  rw [hN, hA]
  exact h.xo
end

set_option maxHeartbeats 16000000 in
set_option maxRecDepth 100000 in
theorem tightLeast_great (d : D) (ws : List Int) (t : Int) (An Aa A : Option Addr) (cn ca cw : Nat) (w : World) (hd : DIn w d An Aa) (_hw : WIn w ws A) (hg : d.great = true) :
    Calls Try.prog 15 #[dfaV d.K d.S An d.N.length cn Aa d.A.length ca, .slice A ws.length cw, .int .u8 t] w (Ret (.bool true) w) := by
  have HG := Lib.hid hg; clear hg
  have Hd := Lib.hid (HasD.new hd cn ca)
  have HW := Lib.hid (bel_new w (.cells #[.int .i64 d.K, .int .i64 d.S, .slice An d.N.length cn, .slice Aa d.A.length ca] 25))
  clear hd _hw
  go_enter Try.func15, Try.ntmps15
  go_wp2_with fail
  refine (tightAlive_any _).mono ?_
  rintro e w1 ⟨rfl, hb⟩
  replace Hd := Lib.hid (Hd.out.up hb)
  replace HW := Lib.hid (bel_step HW.out hb)
  clear hb
  obtain ⟨d0, d1, d2, d3⟩ := Hd.out.cells
  have ltd := Hd.out.lt
  go_wp2_with fail
  refine (great16_c d An Aa cn ca _).mono ?_
  rintro e w2 ⟨rfl, hb⟩
  replace Hd := Lib.hid (Hd.out.up hb)
  replace HW := Lib.hid (bel_step HW.out hb)
  clear d0 d1 d2 d3 ltd
  clear hb
  obtain ⟨d0, d1, d2, d3⟩ := Hd.out.cells
  have ltd := Hd.out.lt
  rw [HG.out]
  go_wp2_with fail
  go_ret
  exact ⟨rfl, HW.out⟩
set_option maxHeartbeats 16000000 in
set_option maxRecDepth 100000 in
theorem tightLeast_long (d : D) (ws : List Int) (t : Int) (An Aa A : Option Addr) (cn ca cw : Nat) (w : World) (hd : DIn w d An Aa) (_hw : WIn w ws A) (hg : d.great = false) (hl : 200 < ws.length) :
    Calls Try.prog 15 #[dfaV d.K d.S An d.N.length cn Aa d.A.length ca, .slice A ws.length cw, .int .u8 t] w (Ret (.bool true) w) := by
  have HG := Lib.hid hg; clear hg
  have Hd := Lib.hid (HasD.new hd cn ca)
  have HW := Lib.hid (bel_new w (.cells #[.int .i64 d.K, .int .i64 d.S, .slice An d.N.length cn, .slice Aa d.A.length ca] 25))
  clear hd _hw
  go_enter Try.func15, Try.ntmps15
  go_wp2_with fail
  refine (tightAlive_any _).mono ?_
  rintro e w1 ⟨rfl, hb⟩
  replace Hd := Lib.hid (Hd.out.up hb)
  replace HW := Lib.hid (bel_step HW.out hb)
  clear hb
  obtain ⟨d0, d1, d2, d3⟩ := Hd.out.cells
  have ltd := Hd.out.lt
  go_wp2_with fail
  refine (great16_c d An Aa cn ca _).mono ?_
  rintro e w2 ⟨rfl, hb⟩
  replace Hd := Lib.hid (Hd.out.up hb)
  replace HW := Lib.hid (bel_step HW.out hb)
  clear d0 d1 d2 d3 ltd
  clear hb
  obtain ⟨d0, d1, d2, d3⟩ := Hd.out.cells
  have ltd := Hd.out.lt
  rw [HG.out]
  go_wp2_with fail
  go_ret
  exact ⟨rfl, HW.out⟩
set_option maxHeartbeats 16000000 in
set_option maxRecDepth 100000 in
theorem tightLeast_no (d : D) (ws : List Int) (t : Int) (An Aa A : Option Addr) (cn ca cw : Nat) (w : World) (hd : DIn w d An Aa) (_hw : WIn w ws A) (hg : d.great = false) (hl : ¬ 200 < ws.length) (hr : d.right = false) :
    Calls Try.prog 15 #[dfaV d.K d.S An d.N.length cn Aa d.A.length ca, .slice A ws.length cw, .int .u8 t] w (Ret (.bool true) w) := by
  have HG := Lib.hid hg; clear hg
  have HR := Lib.hid hr; clear hr
  have Hd := Lib.hid (HasD.new hd cn ca)
  have HW := Lib.hid (bel_new w (.cells #[.int .i64 d.K, .int .i64 d.S, .slice An d.N.length cn, .slice Aa d.A.length ca] 25))
  clear hd _hw
  go_enter Try.func15, Try.ntmps15
  go_wp2_with fail
  refine (tightAlive_any _).mono ?_
  rintro e w1 ⟨rfl, hb⟩
  replace Hd := Lib.hid (Hd.out.up hb)
  replace HW := Lib.hid (bel_step HW.out hb)
  clear hb
  obtain ⟨d0, d1, d2, d3⟩ := Hd.out.cells
  have ltd := Hd.out.lt
  go_wp2_with fail
  refine (great16_c d An Aa cn ca _).mono ?_
  rintro e w2 ⟨rfl, hb⟩
  replace Hd := Lib.hid (Hd.out.up hb)
  replace HW := Lib.hid (bel_step HW.out hb)
  clear d0 d1 d2 d3 ltd
  clear hb
  obtain ⟨d0, d1, d2, d3⟩ := Hd.out.cells
  have ltd := Hd.out.lt
  rw [HG.out]
  go_wp2_with fail
  refine (right_c Hd.out.din cn ca).mono ?_
  rintro e w3 ⟨rfl, hb⟩
  replace Hd := Lib.hid (Hd.out.up hb)
  replace HW := Lib.hid (bel_step HW.out hb)
  clear d0 d1 d2 d3 ltd
  clear hb
  obtain ⟨d0, d1, d2, d3⟩ := Hd.out.cells
  have ltd := Hd.out.lt
  rw [HR.out]
  go_wp2_with fail
  go_ret
  exact ⟨rfl, HW.out⟩
set_option maxHeartbeats 16000000 in
set_option maxRecDepth 100000 in
theorem tightLeast_main (d : D) (ws : List Int) (t : Int) (An Aa A : Option Addr) (cn ca cw : Nat) (w : World) (hd : DIn w d An Aa) (hw : WIn w ws A) (ht : 0 ≤ t ∧ t < 256) (hg : d.great = false) (hl : ¬ 200 < ws.length) (hr : d.right = true) :
    Calls Try.prog 15 #[dfaV d.K d.S An d.N.length cn Aa d.A.length ca, .slice A ws.length cw, .int .u8 t] w (Ret (.bool true) w) := by
  have HG := Lib.hid hg
  have hok := D.right_true.1 hr
  have HOK := Lib.hid hok
  have HD0 := Lib.hid hd
  have HW0 := Lib.hid hw
  have C57 := Lib.hid (fun (W : World) (x : D) (Xn Xa : Option Addr) (xm xb : Nat) (h : DIn W x Xn Xa) (hx : x.Ok) => tight_yes x Xn Xa xm xb W h hx)
  obtain ⟨hz1, hz2, hz3⟩ := D.great_no hg
  have hA1 : 1 ≤ d.A.length := hok.2.2.1
  have hK1 : 1 ≤ d.K := hok.1
  have hK2 : d.K ≤ 512 := hok.2.1
  have hS1 : 0 ≤ d.S := hok.2.2.2.2.2.1
  have hS2 : d.S < d.A.length := hok.2.2.2.2.2.2.1
  obtain ⟨ht0, ht1⟩ := ht
  have hrem : ∀ s : Int, 0 ≤ s ∧ s < d.A.length → (s + t).tmod (d.A.length : Int) = turnI d.A.length t s := fun s hs => by
    unfold turnI
    exact Int.tmod_eq_emod_of_nonneg (by omega)
  have HRM := Lib.hid hrem
  have hvS : IntKind.i64.wrap (d.S + t) = d.S + t := by rw [IntKind.wrap_i64]; omega
  have hrS := hrem d.S ⟨hS1, hS2⟩
  obtain ⟨S2, hS2e⟩ : ∃ S2, S2 = turnI d.A.length t d.S := ⟨_, rfl⟩
  rw [← hS2e] at hrS
  have HS2 := Lib.hid hS2e
  have hn0 : ¬ d.A = [] := by intro e; rw [e] at hA1; simp at hA1
  have hvt : IntKind.i64.wrap t = t := by rw [IntKind.wrap_i64]; omega
  obtain ⟨i4, hi, hz, hs2, hb2⟩ := info_parts Try.info4
  have HI4 := Lib.hid hi; have HZ4 := Lib.hid hz; have HS4 := Lib.hid hs2; have HB4 := Lib.hid hb2
  clear hi hz hs2 hb2
  obtain ⟨i3, hi, hz, hs2, hb2⟩ := info_parts Try.info3
  have HI3 := Lib.hid hi; have HZ3 := Lib.hid hz; have HS3 := Lib.hid hs2; have HB3 := Lib.hid hb2
  clear hi hz hs2 hb2
  have hmkn : ∀ W : World, (Instr.makeSlice 22 (.int .i64 (d.N.length : Int)) (.int .i64 (d.N.length : Int))).run Try.prog W = .ok (.slice (some ⟨W.heap.size, 0, none⟩) d.N.length d.N.length) (W.alloc (.cells (madeCells #[.int .i64 0] d.N.length) 3)) := fun W => by
    have h := run_make_rowN (P := Try.prog) 22 3 i3 (.int .i64 0) Try.underlying22 HI3.out HZ3.out .i64 .i64 d.N.length d.N.length (Nat.le_refl _) (by rw [HB3.out]; omega) (by omega) W
    rw [HS3.out, Nat.mul_one] at h
    exact h
  have hmka : ∀ W : World, (Instr.makeSlice 23 (.int .i64 (d.A.length : Int)) (.int .i64 (d.A.length : Int))).run Try.prog W = .ok (.slice (some ⟨W.heap.size, 0, none⟩) d.A.length d.A.length) (W.alloc (.cells (madeCells #[.bool false] d.A.length) 4)) := fun W => by
    have h := run_make_rowN (P := Try.prog) 23 4 i4 (.bool false) Try.underlying23 HI4.out HZ4.out .i64 .i64 d.A.length d.A.length (Nat.le_refl _) (by rw [HB4.out]; omega) (by omega) W
    rw [HS4.out, Nat.mul_one] at h
    exact h
  clear hg hok hS2e hrem
  have HR := Lib.hid hr; clear hr
  have Hd := Lib.hid (HasD.new hd cn ca)
  have HW := Lib.hid (bel_new w (.cells #[.int .i64 d.K, .int .i64 d.S, .slice An d.N.length cn, .slice Aa d.A.length ca] 25))
  clear hd hw
  go_enter Try.func15, Try.ntmps15
  go_wp2_with fail
  refine (tightAlive_any _).mono ?_
  rintro e w1 ⟨rfl, hb⟩
  replace Hd := Lib.hid (Hd.out.up hb)
  replace HW := Lib.hid (bel_step HW.out hb)
  clear hb
  obtain ⟨d0, d1, d2, d3⟩ := Hd.out.cells
  have ltd := Hd.out.lt
  go_wp2_with fail
  refine (great16_c d An Aa cn ca _).mono ?_
  rintro e w2 ⟨rfl, hb⟩
  replace Hd := Lib.hid (Hd.out.up hb)
  replace HW := Lib.hid (bel_step HW.out hb)
  clear d0 d1 d2 d3 ltd
  clear hb
  obtain ⟨d0, d1, d2, d3⟩ := Hd.out.cells
  have ltd := Hd.out.lt
  rw [HG.out]
  go_wp2_with fail
  refine (right_c Hd.out.din cn ca).mono ?_
  rintro e w3 ⟨rfl, hb⟩
  replace Hd := Lib.hid (Hd.out.up hb)
  replace HW := Lib.hid (bel_step HW.out hb)
  clear d0 d1 d2 d3 ltd
  clear hb
  obtain ⟨d0, d1, d2, d3⟩ := Hd.out.cells
  have ltd := Hd.out.lt
  rw [HR.out]
  have hs1 : w.heap.size + 1 ≤ w3.heap.size := by have := ltd; omega
  go_upto_region 6 with fail
  go_cut [8] (fun v8 wx => ∃ go gn ga : Nat, v8 = .pointer (some ⟨go, 0, none⟩) ∧ Hid (LW w wx d An cn Aa ca go gn ga S2 (List.replicate d.N.length 0) (List.replicate d.A.length false)))
  case first =>
    have Hd3 := Hd.out.drew
    have HB3' := HW.out.drew
    have hs0 : w.heap.size + 1 ≤ w3.drew.heap.size := hs1
    refine wp_region_peelF (S := fun w' => w'.cell? ⟨w.heap.size, 0, none⟩ = some (.int .i64 d.K) ∧ w'.cell? ⟨w.heap.size, 1, none⟩ = some (.int .i64 d.S) ∧ w'.cell? ⟨w.heap.size, 2, none⟩ = some (.slice An d.N.length cn) ∧ w'.cell? ⟨w.heap.size, 3, none⟩ = some (.slice Aa d.A.length ca)) (List.cons_ne_nil _ _) (by kernel_rfl) (by kernel_rfl) (⟨d0, d1, d2, d3⟩) (fun hHeld => ?_)
    simp only [List.dropLast_cons_cons, List.dropLast_singleton, List.length_cons, List.length_nil, Nat.zero_add, Nat.reduceAdd]
    generalize w3.drew = W0 at Hd3 HB3' hs0 hHeld ⊢
    clear Hd HW hs1 d0 d1 d2 d3 ltd
    refine wpAnyH_take (i := 0) (v := ?_) rfl (by kernel_rfl) (by kernel_rfl) (by kernel_rfl) (fun _ _ _ h => h) (Or.inl ⟨by rfl, ?_⟩) (by assumption) ?_
    rotate_left 1
    · intro w hSw; (try dsimp only at hSw); go_simp; first | done | with_reducible rfl
    try simp only [Act.put]
    refine wpAnyH_take (i := 1) (v := ?_) rfl (by kernel_rfl) (by kernel_rfl) (by kernel_rfl) (fun _ _ _ h => h) (Or.inl ⟨by rfl, ?_⟩) (by assumption) ?_
    rotate_left 1
    · intro w hSw; (try dsimp only at hSw); go_simp; first | done | with_reducible rfl
    try simp only [Act.put]
    refine wpAnyH_take (i := 2) (v := ?_) rfl (by kernel_rfl) (by kernel_rfl) (by kernel_rfl) (fun _ _ _ h => h) (Or.inl ⟨by rfl, ?_⟩) (by assumption) ?_
    rotate_left 1
    · intro w hSw; (try dsimp only at hSw); go_simp; first | done | with_reducible rfl
    try simp only [Act.put]
    refine wpAnyH_take (i := 3) (v := ?_) rfl (by kernel_rfl) (by kernel_rfl) (by kernel_rfl) (fun _ _ _ h => h) (Or.inl ⟨by rfl, ?_⟩) (by assumption) ?_
    rotate_left 1
    · intro w hSw; (try dsimp only at hSw); go_simp; first | done | with_reducible rfl
    try simp only [Act.put]
    refine wpAnyH_take (i := 4) (v := ?_) rfl (by kernel_rfl) (by kernel_rfl) (by kernel_rfl) (fun _ _ _ h => h) (Or.inl ⟨by rfl, ?_⟩) (by assumption) ?_
    rotate_left 1
    · intro w hSw; (try dsimp only at hSw); go_simp; first | done | with_reducible rfl
    try simp only [Act.put]
    refine wpAnyH_take (i := 5) (v := ?_) rfl (by kernel_rfl) (by kernel_rfl) (by kernel_rfl) (fun _ _ _ h => h) (Or.inl ⟨by rfl, ?_⟩) (by assumption) ?_
    rotate_left 1
    · intro w hSw; (try dsimp only at hSw); go_simp; first | done | with_reducible rfl
    try simp only [Act.put]
    refine wpAnyH_take (i := 6) (v := ?_) rfl (by kernel_rfl) (by kernel_rfl) (by kernel_rfl) (fun _ _ _ h => h) (Or.inl ⟨by rfl, ?_⟩) (by assumption) ?_
    rotate_left 1
    · intro w hSw; (try dsimp only at hSw); go_simp; first | done | with_reducible rfl
    try simp only [Act.put]
    refine wpAnyH_take (i := 7) (v := ?_) rfl (by kernel_rfl) (by kernel_rfl) (by kernel_rfl) (fun _ _ _ h => h) (Or.inl ⟨by rfl, ?_⟩) (by assumption) ?_
    rotate_left 1
    · intro w hSw; (try dsimp only at hSw); go_simp; first | done | with_reducible rfl
    try simp only [Act.put]
    refine wpAnyH_take (i := 8) (v := ?_) rfl (by kernel_rfl) (by kernel_rfl) (by kernel_rfl) (fun _ _ _ h => h) (Or.inl ⟨by rfl, ?_⟩) (by assumption) ?_
    rotate_left 1
    · intro w hSw; (try dsimp only at hSw); go_simp; first | done | with_reducible rfl
    try simp only [Act.put]
    refine wpAnyH_take (i := 9) (v := ?_) rfl (by kernel_rfl) (by kernel_rfl) (by kernel_rfl) (fun _ _ _ h => h) (Or.inl ⟨by rfl, ?_⟩) (by assumption) ?_
    rotate_left 1
    · intro w hSw; (try dsimp only at hSw); go_simp; first | done | with_reducible rfl
    try simp only [Act.put]
    refine wpAnyH_take (i := 10) (v := ?_) rfl (by kernel_rfl) (by kernel_rfl) (by kernel_rfl) (fun _ _ _ h => h) (Or.inl ⟨by rfl, ?_⟩) (by assumption) ?_
    rotate_left 1
    · intro w hSw; (try dsimp only at hSw); go_simp; first | done | with_reducible rfl
    try simp only [Act.put]
    refine wpAnyH_take (i := 11) (v := ?_) rfl (by kernel_rfl) (by kernel_rfl) (by kernel_rfl) (fun _ _ _ h => h) (Or.inl ⟨by rfl, ?_⟩) (by assumption) ?_
    rotate_left 1
    · intro w hSw; (try dsimp only at hSw); go_simp; first | done | with_reducible rfl
    try simp only [Act.put]
    refine wpAnyH_take (i := 13) (v := ?_) rfl (by kernel_rfl) (by kernel_rfl) (by kernel_rfl) (fun _ _ _ h => h) (Or.inl ⟨by rfl, ?_⟩) (by assumption) ?_
    rotate_left 1
    · intro w hSw; (try dsimp only at hSw); go_simp; first | done | with_reducible rfl
    try simp only [Act.put]
    refine wpAnyH_ready (rs := [12, 14, 16]) (by kernel_rfl) (by simp) (AllReadyH.cons rfl (fun K hK => ?_) (AllReadyH.cons rfl (fun K hK => ?_) (AllReadyH.cons rfl (fun K hK => ?_) (AllReadyH.nil))))
    · go_simp
      refine hK.out _ _ (⟨(World.cell?_alloc_lt _ _ ⟨w.heap.size, 0, none⟩ (by simp; omega)).trans hHeld.1, (World.cell?_alloc_lt _ _ ⟨w.heap.size, 1, none⟩ (by simp; omega)).trans hHeld.2.1, (World.cell?_alloc_lt _ _ ⟨w.heap.size, 2, none⟩ (by simp; omega)).trans hHeld.2.2.1, (World.cell?_alloc_lt _ _ ⟨w.heap.size, 3, none⟩ (by simp; omega)).trans hHeld.2.2.2⟩) (fun hHeld => ?_)
      clear hK K
      try simp only [Act.put]
      refine wpAnyH_ready (rs := [14, 16]) (by kernel_rfl) (by simp) (AllReadyH.cons rfl (fun K hK => ?_) (AllReadyH.cons rfl (fun K hK => ?_) (AllReadyH.nil)))
      · go_simp
        refine hK.out _ _ (⟨(World.cell?_alloc_lt _ _ ⟨w.heap.size, 0, none⟩ (by simp; omega)).trans hHeld.1, (World.cell?_alloc_lt _ _ ⟨w.heap.size, 1, none⟩ (by simp; omega)).trans hHeld.2.1, (World.cell?_alloc_lt _ _ ⟨w.heap.size, 2, none⟩ (by simp; omega)).trans hHeld.2.2.1, (World.cell?_alloc_lt _ _ ⟨w.heap.size, 3, none⟩ (by simp; omega)).trans hHeld.2.2.2⟩) (fun hHeld => ?_)
        clear hK K
        try simp only [Act.put]
        refine wpAnyH_take (i := 15) (v := ?_) rfl (by kernel_rfl) (by kernel_rfl) (by kernel_rfl) (fun _ _ _ h => h) (Or.inl ⟨by rfl, ?_⟩) (by assumption) ?_
        rotate_left 1
        · intro w hSw; (try dsimp only at hSw); go_simp; first | done | with_reducible rfl
        try simp only [Act.put]
        refine wpAnyH_ready (rs := [16]) (by kernel_rfl) (by simp) (AllReadyH.cons rfl (fun K hK => ?_) (AllReadyH.nil))
        · go_simp
          refine hK.out _ _ (⟨(World.cell?_alloc_lt _ _ ⟨w.heap.size, 0, none⟩ (by simp; omega)).trans hHeld.1, (World.cell?_alloc_lt _ _ ⟨w.heap.size, 1, none⟩ (by simp; omega)).trans hHeld.2.1, (World.cell?_alloc_lt _ _ ⟨w.heap.size, 2, none⟩ (by simp; omega)).trans hHeld.2.2.1, (World.cell?_alloc_lt _ _ ⟨w.heap.size, 3, none⟩ (by simp; omega)).trans hHeld.2.2.2⟩) (fun hHeld => ?_)
          clear hK K
          try simp only [Act.put]
          have hn := (((ownMade W0 (w.heap.size + 1) d.N.length (W0.heap.size) 3 (.int .i64 0) (by simp) (by first | omega | (simp; omega)) (by omega)).alloc (.cells (madeCells #[.bool false] d.A.length) 4)).alloc (.cells #[.int .i64 0, .int .i64 0, .slice none 0 0, .slice none 0 0] 25))
          have ha := ((ownMade (W0.alloc (.cells (madeCells #[.int .i64 0] d.N.length) 3)) (w.heap.size + 1) d.A.length (W0.heap.size + 1) 4 (.bool false) (by simp) (by first | omega | (simp; omega)) (by omega)).alloc (.cells #[.int .i64 0, .int .i64 0, .slice none 0 0, .slice none 0 0] 25))
          have hblk := (Blk.new ((W0.alloc (.cells (madeCells #[.int .i64 0] d.N.length) 3)).alloc (.cells (madeCells #[.bool false] d.A.length) 4)) 25 #[.int .i64 0, .int .i64 0, .slice none 0 0, .slice none 0 0])
          try simp only [size_alloc_one] at hblk
          have hbx : BlkD (((W0.alloc (.cells (madeCells #[.int .i64 0] d.N.length) 3)).alloc (.cells (madeCells #[.bool false] d.A.length) 4)).alloc (.cells #[.int .i64 0, .int .i64 0, .slice none 0 0, .slice none 0 0] 25)) w.heap.size d An cn Aa ca := (((Hd3.box.alloc (.cells (madeCells #[.int .i64 0] d.N.length) 3)).alloc (.cells (madeCells #[.bool false] d.A.length) 4)).alloc (.cells #[.int .i64 0, .int .i64 0, .slice none 0 0, .slice none 0 0] 25))
          have hbe : Below w.heap.size w (((W0.alloc (.cells (madeCells #[.int .i64 0] d.N.length) 3)).alloc (.cells (madeCells #[.bool false] d.A.length) 4)).alloc (.cells #[.int .i64 0, .int .i64 0, .slice none 0 0, .slice none 0 0] 25)) := (bel_alloc (bel_alloc (bel_alloc HB3' (.cells (madeCells #[.int .i64 0] d.N.length) 3)) (.cells (madeCells #[.bool false] d.A.length) 4)) (.cells #[.int .i64 0, .int .i64 0, .slice none 0 0, .slice none 0 0] 25))
          clear hHeld
          generalize hV : (((W0.alloc (.cells (madeCells #[.int .i64 0] d.N.length) 3)).alloc (.cells (madeCells #[.bool false] d.A.length) 4)).alloc (.cells #[.int .i64 0, .int .i64 0, .slice none 0 0, .slice none 0 0] 25)) = V at hbx hbe hblk hn ha ⊢
          clear hV
          have hblk' : Blk V (W0.heap.size + 1 + 1) 25 #[.int .i64 0, .int .i64 0, .slice none 0 0, .slice none 0 0] := hblk
          clear hblk
          generalize hg2 : W0.heap.size + 1 + 1 = g2 at hblk' hn ha ⊢
          generalize hg1 : W0.heap.size + 1 = g1 at hblk' hn ha ⊢
          generalize hg0 : W0.heap.size = g0 at hblk' hn ha ⊢
          have hgl : w.heap.size < g2 := by omega
          clear hg0 hg1 hg2
          refine wpAnyH_done (by kernel_rfl) ?_ _
          show Oper.wp _ _ _ _ _ _
          obtain ⟨⟨o0, o1, o2, o3⟩, y0, y1, y2, y3⟩ := blk4 hblk'
          have hgl2 := hblk'.lt
          have HLW := Lib.hid (LW.start hbx hblk' hgl hn ha hbe S2)
          clear hbx hblk' hgl hn ha hbe
          go_simp
          go_wp2_with fail
          go_meet
          case rel => exact ⟨_, _, _, rfl, HLW⟩
      · go_simp
        refine hK.out _ _ (⟨(World.cell?_alloc_lt _ _ ⟨w.heap.size, 0, none⟩ (by simp; omega)).trans hHeld.1, (World.cell?_alloc_lt _ _ ⟨w.heap.size, 1, none⟩ (by simp; omega)).trans hHeld.2.1, (World.cell?_alloc_lt _ _ ⟨w.heap.size, 2, none⟩ (by simp; omega)).trans hHeld.2.2.1, (World.cell?_alloc_lt _ _ ⟨w.heap.size, 3, none⟩ (by simp; omega)).trans hHeld.2.2.2⟩) (fun hHeld => ?_)
        clear hK K
        try simp only [Act.put]
        refine wpAnyH_ready (rs := [14]) (by kernel_rfl) (by simp) (AllReadyH.cons rfl (fun K hK => ?_) (AllReadyH.nil))
        · go_simp
          refine hK.out _ _ (⟨(World.cell?_alloc_lt _ _ ⟨w.heap.size, 0, none⟩ (by simp; omega)).trans hHeld.1, (World.cell?_alloc_lt _ _ ⟨w.heap.size, 1, none⟩ (by simp; omega)).trans hHeld.2.1, (World.cell?_alloc_lt _ _ ⟨w.heap.size, 2, none⟩ (by simp; omega)).trans hHeld.2.2.1, (World.cell?_alloc_lt _ _ ⟨w.heap.size, 3, none⟩ (by simp; omega)).trans hHeld.2.2.2⟩) (fun hHeld => ?_)
          clear hK K
          try simp only [Act.put]
          refine wpAnyH_take (i := 15) (v := ?_) rfl (by kernel_rfl) (by kernel_rfl) (by kernel_rfl) (fun _ _ _ h => h) (Or.inl ⟨by rfl, ?_⟩) (by assumption) ?_
          rotate_left 1
          · intro w hSw; (try dsimp only at hSw); go_simp; first | done | with_reducible rfl
          try simp only [Act.put]
          have hn := (((ownMade W0 (w.heap.size + 1) d.N.length (W0.heap.size) 3 (.int .i64 0) (by simp) (by first | omega | (simp; omega)) (by omega)).alloc (.cells #[.int .i64 0, .int .i64 0, .slice none 0 0, .slice none 0 0] 25)).alloc (.cells (madeCells #[.bool false] d.A.length) 4))
          have hblk := ((Blk.new (W0.alloc (.cells (madeCells #[.int .i64 0] d.N.length) 3)) 25 #[.int .i64 0, .int .i64 0, .slice none 0 0, .slice none 0 0]).alloc (.cells (madeCells #[.bool false] d.A.length) 4))
          have ha := (ownMade ((W0.alloc (.cells (madeCells #[.int .i64 0] d.N.length) 3)).alloc (.cells #[.int .i64 0, .int .i64 0, .slice none 0 0, .slice none 0 0] 25)) (w.heap.size + 1) d.A.length (W0.heap.size + 1 + 1) 4 (.bool false) (by simp) (by first | omega | (simp; omega)) (by omega))
          try simp only [size_alloc_one] at hblk
          have hbx : BlkD (((W0.alloc (.cells (madeCells #[.int .i64 0] d.N.length) 3)).alloc (.cells #[.int .i64 0, .int .i64 0, .slice none 0 0, .slice none 0 0] 25)).alloc (.cells (madeCells #[.bool false] d.A.length) 4)) w.heap.size d An cn Aa ca := (((Hd3.box.alloc (.cells (madeCells #[.int .i64 0] d.N.length) 3)).alloc (.cells #[.int .i64 0, .int .i64 0, .slice none 0 0, .slice none 0 0] 25)).alloc (.cells (madeCells #[.bool false] d.A.length) 4))
          have hbe : Below w.heap.size w (((W0.alloc (.cells (madeCells #[.int .i64 0] d.N.length) 3)).alloc (.cells #[.int .i64 0, .int .i64 0, .slice none 0 0, .slice none 0 0] 25)).alloc (.cells (madeCells #[.bool false] d.A.length) 4)) := (bel_alloc (bel_alloc (bel_alloc HB3' (.cells (madeCells #[.int .i64 0] d.N.length) 3)) (.cells #[.int .i64 0, .int .i64 0, .slice none 0 0, .slice none 0 0] 25)) (.cells (madeCells #[.bool false] d.A.length) 4))
          clear hHeld
          generalize hV : (((W0.alloc (.cells (madeCells #[.int .i64 0] d.N.length) 3)).alloc (.cells #[.int .i64 0, .int .i64 0, .slice none 0 0, .slice none 0 0] 25)).alloc (.cells (madeCells #[.bool false] d.A.length) 4)) = V at hbx hbe hblk hn ha ⊢
          clear hV
          have hblk' : Blk V (W0.heap.size + 1) 25 #[.int .i64 0, .int .i64 0, .slice none 0 0, .slice none 0 0] := hblk
          clear hblk
          generalize hg2 : W0.heap.size + 1 + 1 = g2 at hblk' hn ha ⊢
          generalize hg1 : W0.heap.size + 1 = g1 at hblk' hn ha ⊢
          generalize hg0 : W0.heap.size = g0 at hblk' hn ha ⊢
          have hgl : w.heap.size < g1 := by omega
          clear hg0 hg1 hg2
          refine wpAnyH_done (by kernel_rfl) ?_ _
          show Oper.wp _ _ _ _ _ _
          obtain ⟨⟨o0, o1, o2, o3⟩, y0, y1, y2, y3⟩ := blk4 hblk'
          have hgl2 := hblk'.lt
          have HLW := Lib.hid (LW.start hbx hblk' hgl hn ha hbe S2)
          clear hbx hblk' hgl hn ha hbe
          go_simp
          go_wp2_with fail
          go_meet
          case rel => exact ⟨_, _, _, rfl, HLW⟩
    · go_simp
      refine hK.out _ _ (⟨(World.cell?_alloc_lt _ _ ⟨w.heap.size, 0, none⟩ (by simp; omega)).trans hHeld.1, (World.cell?_alloc_lt _ _ ⟨w.heap.size, 1, none⟩ (by simp; omega)).trans hHeld.2.1, (World.cell?_alloc_lt _ _ ⟨w.heap.size, 2, none⟩ (by simp; omega)).trans hHeld.2.2.1, (World.cell?_alloc_lt _ _ ⟨w.heap.size, 3, none⟩ (by simp; omega)).trans hHeld.2.2.2⟩) (fun hHeld => ?_)
      clear hK K
      try simp only [Act.put]
      refine wpAnyH_ready (rs := [12, 16]) (by kernel_rfl) (by simp) (AllReadyH.cons rfl (fun K hK => ?_) (AllReadyH.cons rfl (fun K hK => ?_) (AllReadyH.nil)))
      · go_simp
        refine hK.out _ _ (⟨(World.cell?_alloc_lt _ _ ⟨w.heap.size, 0, none⟩ (by simp; omega)).trans hHeld.1, (World.cell?_alloc_lt _ _ ⟨w.heap.size, 1, none⟩ (by simp; omega)).trans hHeld.2.1, (World.cell?_alloc_lt _ _ ⟨w.heap.size, 2, none⟩ (by simp; omega)).trans hHeld.2.2.1, (World.cell?_alloc_lt _ _ ⟨w.heap.size, 3, none⟩ (by simp; omega)).trans hHeld.2.2.2⟩) (fun hHeld => ?_)
        clear hK K
        try simp only [Act.put]
        refine wpAnyH_take (i := 15) (v := ?_) rfl (by kernel_rfl) (by kernel_rfl) (by kernel_rfl) (fun _ _ _ h => h) (Or.inl ⟨by rfl, ?_⟩) (by assumption) ?_
        rotate_left 1
        · intro w hSw; (try dsimp only at hSw); go_simp; first | done | with_reducible rfl
        try simp only [Act.put]
        refine wpAnyH_ready (rs := [16]) (by kernel_rfl) (by simp) (AllReadyH.cons rfl (fun K hK => ?_) (AllReadyH.nil))
        · go_simp
          refine hK.out _ _ (⟨(World.cell?_alloc_lt _ _ ⟨w.heap.size, 0, none⟩ (by simp; omega)).trans hHeld.1, (World.cell?_alloc_lt _ _ ⟨w.heap.size, 1, none⟩ (by simp; omega)).trans hHeld.2.1, (World.cell?_alloc_lt _ _ ⟨w.heap.size, 2, none⟩ (by simp; omega)).trans hHeld.2.2.1, (World.cell?_alloc_lt _ _ ⟨w.heap.size, 3, none⟩ (by simp; omega)).trans hHeld.2.2.2⟩) (fun hHeld => ?_)
          clear hK K
          try simp only [Act.put]
          have ha := (((ownMade W0 (w.heap.size + 1) d.A.length (W0.heap.size) 4 (.bool false) (by simp) (by first | omega | (simp; omega)) (by omega)).alloc (.cells (madeCells #[.int .i64 0] d.N.length) 3)).alloc (.cells #[.int .i64 0, .int .i64 0, .slice none 0 0, .slice none 0 0] 25))
          have hn := ((ownMade (W0.alloc (.cells (madeCells #[.bool false] d.A.length) 4)) (w.heap.size + 1) d.N.length (W0.heap.size + 1) 3 (.int .i64 0) (by simp) (by first | omega | (simp; omega)) (by omega)).alloc (.cells #[.int .i64 0, .int .i64 0, .slice none 0 0, .slice none 0 0] 25))
          have hblk := (Blk.new ((W0.alloc (.cells (madeCells #[.bool false] d.A.length) 4)).alloc (.cells (madeCells #[.int .i64 0] d.N.length) 3)) 25 #[.int .i64 0, .int .i64 0, .slice none 0 0, .slice none 0 0])
          try simp only [size_alloc_one] at hblk
          have hbx : BlkD (((W0.alloc (.cells (madeCells #[.bool false] d.A.length) 4)).alloc (.cells (madeCells #[.int .i64 0] d.N.length) 3)).alloc (.cells #[.int .i64 0, .int .i64 0, .slice none 0 0, .slice none 0 0] 25)) w.heap.size d An cn Aa ca := (((Hd3.box.alloc (.cells (madeCells #[.bool false] d.A.length) 4)).alloc (.cells (madeCells #[.int .i64 0] d.N.length) 3)).alloc (.cells #[.int .i64 0, .int .i64 0, .slice none 0 0, .slice none 0 0] 25))
          have hbe : Below w.heap.size w (((W0.alloc (.cells (madeCells #[.bool false] d.A.length) 4)).alloc (.cells (madeCells #[.int .i64 0] d.N.length) 3)).alloc (.cells #[.int .i64 0, .int .i64 0, .slice none 0 0, .slice none 0 0] 25)) := (bel_alloc (bel_alloc (bel_alloc HB3' (.cells (madeCells #[.bool false] d.A.length) 4)) (.cells (madeCells #[.int .i64 0] d.N.length) 3)) (.cells #[.int .i64 0, .int .i64 0, .slice none 0 0, .slice none 0 0] 25))
          clear hHeld
          generalize hV : (((W0.alloc (.cells (madeCells #[.bool false] d.A.length) 4)).alloc (.cells (madeCells #[.int .i64 0] d.N.length) 3)).alloc (.cells #[.int .i64 0, .int .i64 0, .slice none 0 0, .slice none 0 0] 25)) = V at hbx hbe hblk hn ha ⊢
          clear hV
          have hblk' : Blk V (W0.heap.size + 1 + 1) 25 #[.int .i64 0, .int .i64 0, .slice none 0 0, .slice none 0 0] := hblk
          clear hblk
          generalize hg2 : W0.heap.size + 1 + 1 = g2 at hblk' hn ha ⊢
          generalize hg1 : W0.heap.size + 1 = g1 at hblk' hn ha ⊢
          generalize hg0 : W0.heap.size = g0 at hblk' hn ha ⊢
          have hgl : w.heap.size < g2 := by omega
          clear hg0 hg1 hg2
          refine wpAnyH_done (by kernel_rfl) ?_ _
          show Oper.wp _ _ _ _ _ _
          obtain ⟨⟨o0, o1, o2, o3⟩, y0, y1, y2, y3⟩ := blk4 hblk'
          have hgl2 := hblk'.lt
          have HLW := Lib.hid (LW.start hbx hblk' hgl hn ha hbe S2)
          clear hbx hblk' hgl hn ha hbe
          go_simp
          go_wp2_with fail
          go_meet
          case rel => exact ⟨_, _, _, rfl, HLW⟩
      · go_simp
        refine hK.out _ _ (⟨(World.cell?_alloc_lt _ _ ⟨w.heap.size, 0, none⟩ (by simp; omega)).trans hHeld.1, (World.cell?_alloc_lt _ _ ⟨w.heap.size, 1, none⟩ (by simp; omega)).trans hHeld.2.1, (World.cell?_alloc_lt _ _ ⟨w.heap.size, 2, none⟩ (by simp; omega)).trans hHeld.2.2.1, (World.cell?_alloc_lt _ _ ⟨w.heap.size, 3, none⟩ (by simp; omega)).trans hHeld.2.2.2⟩) (fun hHeld => ?_)
        clear hK K
        try simp only [Act.put]
        refine wpAnyH_ready (rs := [12]) (by kernel_rfl) (by simp) (AllReadyH.cons rfl (fun K hK => ?_) (AllReadyH.nil))
        · go_simp
          refine hK.out _ _ (⟨(World.cell?_alloc_lt _ _ ⟨w.heap.size, 0, none⟩ (by simp; omega)).trans hHeld.1, (World.cell?_alloc_lt _ _ ⟨w.heap.size, 1, none⟩ (by simp; omega)).trans hHeld.2.1, (World.cell?_alloc_lt _ _ ⟨w.heap.size, 2, none⟩ (by simp; omega)).trans hHeld.2.2.1, (World.cell?_alloc_lt _ _ ⟨w.heap.size, 3, none⟩ (by simp; omega)).trans hHeld.2.2.2⟩) (fun hHeld => ?_)
          clear hK K
          try simp only [Act.put]
          refine wpAnyH_take (i := 15) (v := ?_) rfl (by kernel_rfl) (by kernel_rfl) (by kernel_rfl) (fun _ _ _ h => h) (Or.inl ⟨by rfl, ?_⟩) (by assumption) ?_
          rotate_left 1
          · intro w hSw; (try dsimp only at hSw); go_simp; first | done | with_reducible rfl
          try simp only [Act.put]
          have ha := (((ownMade W0 (w.heap.size + 1) d.A.length (W0.heap.size) 4 (.bool false) (by simp) (by first | omega | (simp; omega)) (by omega)).alloc (.cells #[.int .i64 0, .int .i64 0, .slice none 0 0, .slice none 0 0] 25)).alloc (.cells (madeCells #[.int .i64 0] d.N.length) 3))
          have hblk := ((Blk.new (W0.alloc (.cells (madeCells #[.bool false] d.A.length) 4)) 25 #[.int .i64 0, .int .i64 0, .slice none 0 0, .slice none 0 0]).alloc (.cells (madeCells #[.int .i64 0] d.N.length) 3))
          have hn := (ownMade ((W0.alloc (.cells (madeCells #[.bool false] d.A.length) 4)).alloc (.cells #[.int .i64 0, .int .i64 0, .slice none 0 0, .slice none 0 0] 25)) (w.heap.size + 1) d.N.length (W0.heap.size + 1 + 1) 3 (.int .i64 0) (by simp) (by first | omega | (simp; omega)) (by omega))
          try simp only [size_alloc_one] at hblk
          have hbx : BlkD (((W0.alloc (.cells (madeCells #[.bool false] d.A.length) 4)).alloc (.cells #[.int .i64 0, .int .i64 0, .slice none 0 0, .slice none 0 0] 25)).alloc (.cells (madeCells #[.int .i64 0] d.N.length) 3)) w.heap.size d An cn Aa ca := (((Hd3.box.alloc (.cells (madeCells #[.bool false] d.A.length) 4)).alloc (.cells #[.int .i64 0, .int .i64 0, .slice none 0 0, .slice none 0 0] 25)).alloc (.cells (madeCells #[.int .i64 0] d.N.length) 3))
          have hbe : Below w.heap.size w (((W0.alloc (.cells (madeCells #[.bool false] d.A.length) 4)).alloc (.cells #[.int .i64 0, .int .i64 0, .slice none 0 0, .slice none 0 0] 25)).alloc (.cells (madeCells #[.int .i64 0] d.N.length) 3)) := (bel_alloc (bel_alloc (bel_alloc HB3' (.cells (madeCells #[.bool false] d.A.length) 4)) (.cells #[.int .i64 0, .int .i64 0, .slice none 0 0, .slice none 0 0] 25)) (.cells (madeCells #[.int .i64 0] d.N.length) 3))
          clear hHeld
          generalize hV : (((W0.alloc (.cells (madeCells #[.bool false] d.A.length) 4)).alloc (.cells #[.int .i64 0, .int .i64 0, .slice none 0 0, .slice none 0 0] 25)).alloc (.cells (madeCells #[.int .i64 0] d.N.length) 3)) = V at hbx hbe hblk hn ha ⊢
          clear hV
          have hblk' : Blk V (W0.heap.size + 1) 25 #[.int .i64 0, .int .i64 0, .slice none 0 0, .slice none 0 0] := hblk
          clear hblk
          generalize hg2 : W0.heap.size + 1 + 1 = g2 at hblk' hn ha ⊢
          generalize hg1 : W0.heap.size + 1 = g1 at hblk' hn ha ⊢
          generalize hg0 : W0.heap.size = g0 at hblk' hn ha ⊢
          have hgl : w.heap.size < g1 := by omega
          clear hg0 hg1 hg2
          refine wpAnyH_done (by kernel_rfl) ?_ _
          show Oper.wp _ _ _ _ _ _
          obtain ⟨⟨o0, o1, o2, o3⟩, y0, y1, y2, y3⟩ := blk4 hblk'
          have hgl2 := hblk'.lt
          have HLW := Lib.hid (LW.start hbx hblk' hgl hn ha hbe S2)
          clear hbx hblk' hgl hn ha hbe
          go_simp
          go_wp2_with fail
          go_meet
          case rel => exact ⟨_, _, _, rfl, HLW⟩
    · go_simp
      refine hK.out _ _ (⟨(World.cell?_alloc_lt _ _ ⟨w.heap.size, 0, none⟩ (by simp; omega)).trans hHeld.1, (World.cell?_alloc_lt _ _ ⟨w.heap.size, 1, none⟩ (by simp; omega)).trans hHeld.2.1, (World.cell?_alloc_lt _ _ ⟨w.heap.size, 2, none⟩ (by simp; omega)).trans hHeld.2.2.1, (World.cell?_alloc_lt _ _ ⟨w.heap.size, 3, none⟩ (by simp; omega)).trans hHeld.2.2.2⟩) (fun hHeld => ?_)
      clear hK K
      try simp only [Act.put]
      refine wpAnyH_ready (rs := [12, 14]) (by kernel_rfl) (by simp) (AllReadyH.cons rfl (fun K hK => ?_) (AllReadyH.cons rfl (fun K hK => ?_) (AllReadyH.nil)))
      · go_simp
        refine hK.out _ _ (⟨(World.cell?_alloc_lt _ _ ⟨w.heap.size, 0, none⟩ (by simp; omega)).trans hHeld.1, (World.cell?_alloc_lt _ _ ⟨w.heap.size, 1, none⟩ (by simp; omega)).trans hHeld.2.1, (World.cell?_alloc_lt _ _ ⟨w.heap.size, 2, none⟩ (by simp; omega)).trans hHeld.2.2.1, (World.cell?_alloc_lt _ _ ⟨w.heap.size, 3, none⟩ (by simp; omega)).trans hHeld.2.2.2⟩) (fun hHeld => ?_)
        clear hK K
        try simp only [Act.put]
        refine wpAnyH_ready (rs := [14]) (by kernel_rfl) (by simp) (AllReadyH.cons rfl (fun K hK => ?_) (AllReadyH.nil))
        · go_simp
          refine hK.out _ _ (⟨(World.cell?_alloc_lt _ _ ⟨w.heap.size, 0, none⟩ (by simp; omega)).trans hHeld.1, (World.cell?_alloc_lt _ _ ⟨w.heap.size, 1, none⟩ (by simp; omega)).trans hHeld.2.1, (World.cell?_alloc_lt _ _ ⟨w.heap.size, 2, none⟩ (by simp; omega)).trans hHeld.2.2.1, (World.cell?_alloc_lt _ _ ⟨w.heap.size, 3, none⟩ (by simp; omega)).trans hHeld.2.2.2⟩) (fun hHeld => ?_)
          clear hK K
          try simp only [Act.put]
          refine wpAnyH_take (i := 15) (v := ?_) rfl (by kernel_rfl) (by kernel_rfl) (by kernel_rfl) (fun _ _ _ h => h) (Or.inl ⟨by rfl, ?_⟩) (by assumption) ?_
          rotate_left 1
          · intro w hSw; (try dsimp only at hSw); go_simp; first | done | with_reducible rfl
          try simp only [Act.put]
          have hblk := (((Blk.new W0 25 #[.int .i64 0, .int .i64 0, .slice none 0 0, .slice none 0 0]).alloc (.cells (madeCells #[.int .i64 0] d.N.length) 3)).alloc (.cells (madeCells #[.bool false] d.A.length) 4))
          have hn := ((ownMade (W0.alloc (.cells #[.int .i64 0, .int .i64 0, .slice none 0 0, .slice none 0 0] 25)) (w.heap.size + 1) d.N.length (W0.heap.size + 1) 3 (.int .i64 0) (by simp) (by first | omega | (simp; omega)) (by omega)).alloc (.cells (madeCells #[.bool false] d.A.length) 4))
          have ha := (ownMade ((W0.alloc (.cells #[.int .i64 0, .int .i64 0, .slice none 0 0, .slice none 0 0] 25)).alloc (.cells (madeCells #[.int .i64 0] d.N.length) 3)) (w.heap.size + 1) d.A.length (W0.heap.size + 1 + 1) 4 (.bool false) (by simp) (by first | omega | (simp; omega)) (by omega))
          try simp only [size_alloc_one] at hblk
          have hbx : BlkD (((W0.alloc (.cells #[.int .i64 0, .int .i64 0, .slice none 0 0, .slice none 0 0] 25)).alloc (.cells (madeCells #[.int .i64 0] d.N.length) 3)).alloc (.cells (madeCells #[.bool false] d.A.length) 4)) w.heap.size d An cn Aa ca := (((Hd3.box.alloc (.cells #[.int .i64 0, .int .i64 0, .slice none 0 0, .slice none 0 0] 25)).alloc (.cells (madeCells #[.int .i64 0] d.N.length) 3)).alloc (.cells (madeCells #[.bool false] d.A.length) 4))
          have hbe : Below w.heap.size w (((W0.alloc (.cells #[.int .i64 0, .int .i64 0, .slice none 0 0, .slice none 0 0] 25)).alloc (.cells (madeCells #[.int .i64 0] d.N.length) 3)).alloc (.cells (madeCells #[.bool false] d.A.length) 4)) := (bel_alloc (bel_alloc (bel_alloc HB3' (.cells #[.int .i64 0, .int .i64 0, .slice none 0 0, .slice none 0 0] 25)) (.cells (madeCells #[.int .i64 0] d.N.length) 3)) (.cells (madeCells #[.bool false] d.A.length) 4))
          clear hHeld
          generalize hV : (((W0.alloc (.cells #[.int .i64 0, .int .i64 0, .slice none 0 0, .slice none 0 0] 25)).alloc (.cells (madeCells #[.int .i64 0] d.N.length) 3)).alloc (.cells (madeCells #[.bool false] d.A.length) 4)) = V at hbx hbe hblk hn ha ⊢
          clear hV
          have hblk' : Blk V (W0.heap.size) 25 #[.int .i64 0, .int .i64 0, .slice none 0 0, .slice none 0 0] := hblk
          clear hblk
          generalize hg2 : W0.heap.size + 1 + 1 = g2 at hblk' hn ha ⊢
          generalize hg1 : W0.heap.size + 1 = g1 at hblk' hn ha ⊢
          generalize hg0 : W0.heap.size = g0 at hblk' hn ha ⊢
          have hgl : w.heap.size < g0 := by omega
          clear hg0 hg1 hg2
          refine wpAnyH_done (by kernel_rfl) ?_ _
          show Oper.wp _ _ _ _ _ _
          obtain ⟨⟨o0, o1, o2, o3⟩, y0, y1, y2, y3⟩ := blk4 hblk'
          have hgl2 := hblk'.lt
          have HLW := Lib.hid (LW.start hbx hblk' hgl hn ha hbe S2)
          clear hbx hblk' hgl hn ha hbe
          go_simp
          go_wp2_with fail
          go_meet
          case rel => exact ⟨_, _, _, rfl, HLW⟩
      · go_simp
        refine hK.out _ _ (⟨(World.cell?_alloc_lt _ _ ⟨w.heap.size, 0, none⟩ (by simp; omega)).trans hHeld.1, (World.cell?_alloc_lt _ _ ⟨w.heap.size, 1, none⟩ (by simp; omega)).trans hHeld.2.1, (World.cell?_alloc_lt _ _ ⟨w.heap.size, 2, none⟩ (by simp; omega)).trans hHeld.2.2.1, (World.cell?_alloc_lt _ _ ⟨w.heap.size, 3, none⟩ (by simp; omega)).trans hHeld.2.2.2⟩) (fun hHeld => ?_)
        clear hK K
        try simp only [Act.put]
        refine wpAnyH_ready (rs := [12]) (by kernel_rfl) (by simp) (AllReadyH.cons rfl (fun K hK => ?_) (AllReadyH.nil))
        · go_simp
          refine hK.out _ _ (⟨(World.cell?_alloc_lt _ _ ⟨w.heap.size, 0, none⟩ (by simp; omega)).trans hHeld.1, (World.cell?_alloc_lt _ _ ⟨w.heap.size, 1, none⟩ (by simp; omega)).trans hHeld.2.1, (World.cell?_alloc_lt _ _ ⟨w.heap.size, 2, none⟩ (by simp; omega)).trans hHeld.2.2.1, (World.cell?_alloc_lt _ _ ⟨w.heap.size, 3, none⟩ (by simp; omega)).trans hHeld.2.2.2⟩) (fun hHeld => ?_)
          clear hK K
          try simp only [Act.put]
          refine wpAnyH_take (i := 15) (v := ?_) rfl (by kernel_rfl) (by kernel_rfl) (by kernel_rfl) (fun _ _ _ h => h) (Or.inl ⟨by rfl, ?_⟩) (by assumption) ?_
          rotate_left 1
          · intro w hSw; (try dsimp only at hSw); go_simp; first | done | with_reducible rfl
          try simp only [Act.put]
          have hblk := (((Blk.new W0 25 #[.int .i64 0, .int .i64 0, .slice none 0 0, .slice none 0 0]).alloc (.cells (madeCells #[.bool false] d.A.length) 4)).alloc (.cells (madeCells #[.int .i64 0] d.N.length) 3))
          have ha := ((ownMade (W0.alloc (.cells #[.int .i64 0, .int .i64 0, .slice none 0 0, .slice none 0 0] 25)) (w.heap.size + 1) d.A.length (W0.heap.size + 1) 4 (.bool false) (by simp) (by first | omega | (simp; omega)) (by omega)).alloc (.cells (madeCells #[.int .i64 0] d.N.length) 3))
          have hn := (ownMade ((W0.alloc (.cells #[.int .i64 0, .int .i64 0, .slice none 0 0, .slice none 0 0] 25)).alloc (.cells (madeCells #[.bool false] d.A.length) 4)) (w.heap.size + 1) d.N.length (W0.heap.size + 1 + 1) 3 (.int .i64 0) (by simp) (by first | omega | (simp; omega)) (by omega))
          try simp only [size_alloc_one] at hblk
          have hbx : BlkD (((W0.alloc (.cells #[.int .i64 0, .int .i64 0, .slice none 0 0, .slice none 0 0] 25)).alloc (.cells (madeCells #[.bool false] d.A.length) 4)).alloc (.cells (madeCells #[.int .i64 0] d.N.length) 3)) w.heap.size d An cn Aa ca := (((Hd3.box.alloc (.cells #[.int .i64 0, .int .i64 0, .slice none 0 0, .slice none 0 0] 25)).alloc (.cells (madeCells #[.bool false] d.A.length) 4)).alloc (.cells (madeCells #[.int .i64 0] d.N.length) 3))
          have hbe : Below w.heap.size w (((W0.alloc (.cells #[.int .i64 0, .int .i64 0, .slice none 0 0, .slice none 0 0] 25)).alloc (.cells (madeCells #[.bool false] d.A.length) 4)).alloc (.cells (madeCells #[.int .i64 0] d.N.length) 3)) := (bel_alloc (bel_alloc (bel_alloc HB3' (.cells #[.int .i64 0, .int .i64 0, .slice none 0 0, .slice none 0 0] 25)) (.cells (madeCells #[.bool false] d.A.length) 4)) (.cells (madeCells #[.int .i64 0] d.N.length) 3))
          clear hHeld
          generalize hV : (((W0.alloc (.cells #[.int .i64 0, .int .i64 0, .slice none 0 0, .slice none 0 0] 25)).alloc (.cells (madeCells #[.bool false] d.A.length) 4)).alloc (.cells (madeCells #[.int .i64 0] d.N.length) 3)) = V at hbx hbe hblk hn ha ⊢
          clear hV
          have hblk' : Blk V (W0.heap.size) 25 #[.int .i64 0, .int .i64 0, .slice none 0 0, .slice none 0 0] := hblk
          clear hblk
          generalize hg2 : W0.heap.size + 1 + 1 = g2 at hblk' hn ha ⊢
          generalize hg1 : W0.heap.size + 1 = g1 at hblk' hn ha ⊢
          generalize hg0 : W0.heap.size = g0 at hblk' hn ha ⊢
          have hgl : w.heap.size < g0 := by omega
          clear hg0 hg1 hg2
          refine wpAnyH_done (by kernel_rfl) ?_ _
          show Oper.wp _ _ _ _ _ _
          obtain ⟨⟨o0, o1, o2, o3⟩, y0, y1, y2, y3⟩ := blk4 hblk'
          have hgl2 := hblk'.lt
          have HLW := Lib.hid (LW.start hbx hblk' hgl hn ha hbe S2)
          clear hbx hblk' hgl hn ha hbe
          go_simp
          go_wp2_with fail
          go_meet
          case rel => exact ⟨_, _, _, rfl, HLW⟩
  case rest =>
    obtain ⟨go, gn, ga, rfl, HL0⟩ := hcut
    have HA0 := Lib.hid (TurnA.init d t)
    have HN0 := Lib.hid (TurnN.init d t)
    clear Hd HW d0 d1 d2 d3 ltd hmkn hmka hs1
    generalize List.replicate d.N.length (0 : Int) = N0 at HL0 HN0
    generalize List.replicate d.A.length false = A0 at HL0 HA0
    go_wp2_with fail
    go_loopw [9, 10, 11] (fun sI _ _ wr => ∃ (s : Nat) (A2 : List Bool) (N2 : List Int), sI = .int .i64 s ∧ s ≤ d.A.length ∧ Hid (TurnA d t A2 s) ∧ Hid (TurnN d t N2 s 0) ∧ Hid (LW w wr d An cn Aa ca go gn ga S2 N2 A2)) (fun sI _ _ _ => d.A.length - (intOf sI).toNat)
    case atStart => exact ⟨0, A0, N0, rfl, Nat.zero_le _, HA0, HN0, HL0⟩
    case round =>
      clear HA0 HN0 HL0
      obtain ⟨s, A2, N2, rfl, hs, HA, HN, HL⟩ := hrel
      obtain ⟨⟨d0, d1, d2, d3⟩, _⟩ := blk4 HL.out.xd
      obtain ⟨⟨p0, p1, p2, p3⟩, _⟩ := blk4 HL.out.xo
      have ltd := HL.out.xd.lt
      have lto := HL.out.xo.lt
      by_cases hsl : s < d.A.length
      · have hsr : (0 : Int) ≤ s ∧ (s : Int) < d.A.length := ⟨by omega, by omega⟩
        have hv1 : IntKind.i64.wrap ((s : Int) + t) = (s : Int) + t := by rw [IntKind.wrap_i64]; omega
        have hr1 := HRM.out (s : Int) hsr
        obtain ⟨q0, q1⟩ := turnI_rng (n := d.A.length) (by omega) t (s : Int)
        obtain ⟨ga1, oa1, va, hAa, hga1, hca1, hva⟩ := ((HD0.out.ra).below HL.out.xb).bool_ix hsr.1 hsr.2
        have HVA : Hid (d.acc (s : Int) = va) := hva
        have HAS := Lib.hid (HA.out.step hsl)
        rw [HVA.out] at HAS
        rw [Int.toNat_natCast] at hca1
        obtain ⟨q, hq⟩ : ∃ q, q = turnI d.A.length t (s : Int) := ⟨_, rfl⟩
        have HQ := Lib.hid hq
        rw [← hq] at hr1 q0 q1 HAS
        obtain ⟨c1, c1z⟩ := bool_cell HL.out.xa HA.out.len (p := q.toNat) (by omega)
        have HLA := Lib.hid (HL.out.putA q.toNat va).drew
        have hlga : ga < wr.heap.size := (HL.out.xa.lt ga rfl).2
        have hlga1 : ga1 < wr.heap.size := Nat.lt_of_lt_of_le hga1 HL.out.xb.size
        subst hAa
        clear hva hq
        go_wp2_with fail
        go_still_tail 9, (by kernel_rfl)
        change wpList _ _ _ _ _ wr.drew
        go_wp2_with fail
        clear d0 d1 d2 d3 p0 p1 p2 p3 ltd lto c1 c1z hlga hlga1 hca1 HL hr1 hv1
        generalize (wr.setCell ⟨ga, q.toNat, none⟩ (.bool va)).drew = W1 at HLA ⊢
        go_loopw [11] (fun xI wi => ∃ (x : Nat) (N2 : List Int), xI = .int .i64 x ∧ (x : Int) ≤ d.K ∧ Hid (TurnN d t N2 s x) ∧ Hid (LW w wi d An cn (some ⟨ga1, oa1, none⟩) ca go gn ga S2 N2 (A2.set q.toNat va))) (fun xI _ => (d.K - intOf xI).toNat)
        case atStart => exact ⟨0, N2, rfl, by omega, HN, HLA⟩
        case round =>
          clear HN HLA
          obtain ⟨x, N2, rfl, hxK, HN, HL⟩ := hrel
          obtain ⟨⟨d0, d1, d2, d3⟩, _⟩ := blk4 HL.out.xd
          obtain ⟨⟨p0, p1, p2, p3⟩, _⟩ := blk4 HL.out.xo
          have ltd := HL.out.xd.lt
          have lto := HL.out.xo.lt
          by_cases hxl : (x : Int) < d.K
          · have hxr : (0 : Int) ≤ x ∧ (x : Int) < d.K := ⟨by omega, hxl⟩
            obtain ⟨hm1, hm2⟩ := HOK.out.mul_bd (s := (s : Int)) hsr
            obtain ⟨hi1, hi2⟩ := HOK.out.idx (s := (s : Int)) (x := (x : Int)) hsr hxr
            obtain ⟨hm3, hm4⟩ := HOK.out.mul_bd (s := q) ⟨q0, q1⟩
            obtain ⟨hi3, hi4⟩ := HOK.out.idx (s := q) (x := (x : Int)) ⟨q0, q1⟩ hxr
            obtain ⟨gn1, on1, r, hAn, hgn1, hcr, hr⟩ := ((HD0.out.rn).below HL.out.xb).int_ix hi1 hi2
            have hst : d.step (s : Int) (x : Int) = r := hr
            have hrr := HOK.out.step_lt (s := (s : Int)) (x := (x : Int)) hsr hxr
            rw [hst] at hrr
            obtain ⟨r0, r1⟩ := hrr
            have hr1 := HRM.out r ⟨r0, r1⟩
            have hv1 : IntKind.i64.wrap (r + t) = r + t := by rw [IntKind.wrap_i64]; omega
            have v1 : IntKind.i64.wrap ((s : Int) * d.K) = (s : Int) * d.K := by rw [IntKind.wrap_i64]; omega
            have v2 : IntKind.i64.wrap ((s : Int) * d.K + x) = (s : Int) * d.K + x := by rw [IntKind.wrap_i64]; omega
            have v3 : IntKind.i64.wrap (q * d.K) = q * d.K := by rw [IntKind.wrap_i64]; omega
            have v4 : IntKind.i64.wrap (q * d.K + x) = q * d.K + x := by rw [IntKind.wrap_i64]; omega
            have HNS := Lib.hid (HN.out.step HOK.out hsl hxl)
            rw [← HQ.out, hst] at HNS
            obtain ⟨z, hz⟩ : ∃ z, z = turnI d.A.length t r := ⟨_, rfl⟩
            rw [← hz] at hr1 HNS
            obtain ⟨c1, c1z⟩ := int_cell HL.out.xn HN.out.len (p := (q * d.K + x).toNat) (by omega)
            have HLN := Lib.hid (HL.out.putN (q * d.K + x).toNat z).drew
            have hlgn : gn < wr.heap.size := (HL.out.xn.lt gn rfl).2
            have hlgn1 : gn1 < wr.heap.size := Nat.lt_of_lt_of_le hgn1 HL.out.xb.size
            subst hAn
            clear hr hst hz
            go_wp2_with fail
            go_still_tail 24, (by kernel_rfl)
            change wpList _ _ _ _ _ wr.drew
            go_wp2_with fail
            go_roundw
            case rel => exact ⟨x + 1, _, by go_num, by omega, HNS, HLN⟩
            case measure => simp [intOf]; omega
          · have HNX := Lib.hid (HN.out.next (by omega))
            go_wp2_with fail
            go_roundw
            case rel => exact ⟨s + 1, _, N2, by go_num, by omega, HAS, HNX, HL⟩
            case measure => simp [intOf]; omega
      · obtain rfl : s = d.A.length := by omega
        have HT0 := turn_of HOK.out HA.out HN.out
        rw [← HS2.out] at HT0
        have HO0 := HL.out.turned HN.out.len HA.out.len (by omega)
        obtain ⟨e, he⟩ : ∃ e : D, e = { K := d.K, S := S2, N := N2, A := A2 } := ⟨_, rfl⟩
        have HEA : Hid (e.A.length = d.A.length) := by show _ = _; rw [he]; exact HA.out.len
        have HEN : Hid (e.N.length = d.N.length) := by show _ = _; rw [he]; exact HN.out.len
        rw [← he] at HT0 HO0
        have HT := Lib.hid HT0
        have HEO : Hid e.Ok := turn_ok HOK.out HT.out HEA.out HEN.out
        have Ho := Lib.hid HO0
        have Hd : Hid (HasD wr w.heap.size d An cn Aa ca) := ⟨HL.out.xd, HD0.out.up HL.out.xb⟩
        have Ww : Hid (WIn wr ws A) := HW0.out.up HL.out.xb
        have HW : Hid (Below w.heap.size w wr) := HL.out.xb
        have HEK : Hid (e.K = d.K) := HT.out.k
        clear HL HN HA HT0 HO0 he d0 d1 d2 d3 p0 p1 p2 p3 ltd lto
        obtain ⟨d0, d1, d2, d3⟩ := Hd.out.cells
        have ltd := Hd.out.lt
        obtain ⟨o0, o1, o2, o3⟩ := Ho.out.cells
        have lto := Ho.out.lt
        go_wp2_with fail
        refine (C57.out _ d An Aa cn ca Hd.out.din HOK.out).mono ?_
        rintro e w4 ⟨x, hx, v, rfl, hg, hb⟩
        replace Hd := Lib.hid (Hd.out.up hb)
        replace Ho := Lib.hid (Ho.out.up hb)
        replace Ww := Lib.hid (Ww.out.up hb)
        replace HW := Lib.hid (bel_step HW.out hb)
        clear d0 d1 d2 d3 ltd
        clear o0 o1 o2 o3 lto
        clear hb
        obtain ⟨Xn, xm, Xa, xb, rfl, dx⟩ := hg.din (D.Ok.sizes hx.ok)
        have HTX := Lib.hid hx
        clear hg hx
        obtain ⟨d0, d1, d2, d3⟩ := Hd.out.cells
        have ltd := Hd.out.lt
        obtain ⟨o0, o1, o2, o3⟩ := Ho.out.cells
        have lto := Ho.out.lt
        have Hx := Lib.hid (HasD.new dx xm xb)
        replace Hd := Lib.hid (Hd.out.alloc (.cells #[.int .i64 x.K, .int .i64 x.S, .slice Xn x.N.length xm, .slice Xa x.A.length xb] 25))
        replace Ho := Lib.hid (Ho.out.alloc (.cells #[.int .i64 x.K, .int .i64 x.S, .slice Xn x.N.length xm, .slice Xa x.A.length xb] 25))
        replace Ww := Lib.hid (Ww.out.alloc (.cells #[.int .i64 x.K, .int .i64 x.S, .slice Xn x.N.length xm, .slice Xa x.A.length xb] 25))
        replace HW := Lib.hid (bel_alloc HW.out (.cells #[.int .i64 x.K, .int .i64 x.S, .slice Xn x.N.length xm, .slice Xa x.A.length xb] 25))
        clear dx
        go_wp2_with fail
        refine (C57.out _ e _ _ _ _ Ho.out.din HEO.out).mono ?_
        rintro e w5 ⟨y, hy, v, rfl, hg, hb⟩
        replace Hd := Lib.hid (Hd.out.up hb)
        replace Ho := Lib.hid (Ho.out.up hb)
        replace Hx := Lib.hid (Hx.out.up hb)
        replace Ww := Lib.hid (Ww.out.up hb)
        replace HW := Lib.hid (bel_step HW.out hb)
        clear d0 d1 d2 d3 ltd
        clear o0 o1 o2 o3 lto
        clear hb
        obtain ⟨Yn, ym, Ya, yb, rfl, dy⟩ := hg.din (D.Ok.sizes hy.ok)
        obtain rfl : x = y := HTX.out.uniq hy HEK.out.symm ((HT.out.lang0 HOK.out).symm HEK.out)
        clear hg hy
        obtain ⟨d0, d1, d2, d3⟩ := Hd.out.cells
        have ltd := Hd.out.lt
        obtain ⟨o0, o1, o2, o3⟩ := Ho.out.cells
        have lto := Ho.out.lt
        obtain ⟨x0, x1, x2, x3⟩ := Hx.out.cells
        have ltx := Hx.out.lt
        have Hy := Lib.hid (HasD.new dy ym yb)
        replace Hd := Lib.hid (Hd.out.alloc (.cells #[.int .i64 x.K, .int .i64 x.S, .slice Yn x.N.length ym, .slice Ya x.A.length yb] 25))
        replace Ho := Lib.hid (Ho.out.alloc (.cells #[.int .i64 x.K, .int .i64 x.S, .slice Yn x.N.length ym, .slice Ya x.A.length yb] 25))
        replace Hx := Lib.hid (Hx.out.alloc (.cells #[.int .i64 x.K, .int .i64 x.S, .slice Yn x.N.length ym, .slice Ya x.A.length yb] 25))
        replace Ww := Lib.hid (Ww.out.alloc (.cells #[.int .i64 x.K, .int .i64 x.S, .slice Yn x.N.length ym, .slice Ya x.A.length yb] 25))
        replace HW := Lib.hid (bel_alloc HW.out (.cells #[.int .i64 x.K, .int .i64 x.S, .slice Yn x.N.length ym, .slice Ya x.A.length yb] 25))
        clear dy
        go_wp2_with fail
        refine (C57.out _ x _ _ _ _ Hx.out.din HTX.out.ok).mono ?_
        rintro e w6 ⟨z, hz, v, rfl, hg, hb⟩
        replace Hd := Lib.hid (Hd.out.up hb)
        replace Ho := Lib.hid (Ho.out.up hb)
        replace Hx := Lib.hid (Hx.out.up hb)
        replace Hy := Lib.hid (Hy.out.up hb)
        replace Ww := Lib.hid (Ww.out.up hb)
        replace HW := Lib.hid (bel_step HW.out hb)
        clear d0 d1 d2 d3 ltd
        clear o0 o1 o2 o3 lto
        clear x0 x1 x2 x3 ltx
        clear hb
        obtain ⟨Zn, zm, Za, zb, rfl, dz⟩ := hg.din (D.Ok.sizes hz.ok)
        obtain rfl : x = z := HTX.out.again hz
        clear hg hz
        obtain ⟨d0, d1, d2, d3⟩ := Hd.out.cells
        have ltd := Hd.out.lt
        obtain ⟨o0, o1, o2, o3⟩ := Ho.out.cells
        have lto := Ho.out.lt
        obtain ⟨x0, x1, x2, x3⟩ := Hx.out.cells
        have ltx := Hx.out.lt
        obtain ⟨y0, y1, y2, y3⟩ := Hy.out.cells
        have lty := Hy.out.lt
        have Hz := Lib.hid (HasD.new dz zm zb)
        replace Hd := Lib.hid (Hd.out.alloc (.cells #[.int .i64 x.K, .int .i64 x.S, .slice Zn x.N.length zm, .slice Za x.A.length zb] 25))
        replace Ho := Lib.hid (Ho.out.alloc (.cells #[.int .i64 x.K, .int .i64 x.S, .slice Zn x.N.length zm, .slice Za x.A.length zb] 25))
        replace Hx := Lib.hid (Hx.out.alloc (.cells #[.int .i64 x.K, .int .i64 x.S, .slice Zn x.N.length zm, .slice Za x.A.length zb] 25))
        replace Hy := Lib.hid (Hy.out.alloc (.cells #[.int .i64 x.K, .int .i64 x.S, .slice Zn x.N.length zm, .slice Za x.A.length zb] 25))
        replace Ww := Lib.hid (Ww.out.alloc (.cells #[.int .i64 x.K, .int .i64 x.S, .slice Zn x.N.length zm, .slice Za x.A.length zb] 25))
        replace HW := Lib.hid (bel_alloc HW.out (.cells #[.int .i64 x.K, .int .i64 x.S, .slice Zn x.N.length zm, .slice Za x.A.length zb] 25))
        clear dz
        have CE := Lib.hid (fun (W : World) (Bn Ba : Option Addr) (bm bb : Nat) (h1 : DIn W x Xn Xa) (h2 : DIn W x Bn Ba) => equal_any x x Xn Xa Bn Ba xm xb bm bb W h1 h2)
        simp only [decide_true] at CE
        obtain ⟨b, hb⟩ : ∃ b, b = d.tells ws := ⟨_, rfl⟩
        have C29x := Lib.hid (fun (W : World) (h : DIn W x Xn Xa) (h' : WIn W ws A) => tells_c h h' xm xb cw)
        rw [HTX.out.tells HOK.out ws, ← hb] at C29x
        have C29d := Lib.hid (fun (W : World) (h : DIn W d An Aa) (h' : WIn W ws A) => tells_c h h' cn ca cw)
        rw [← hb] at C29d
        have hle : (x.A.length : Int) ≤ d.A.length := by have := HTX.out.le; omega
        clear hb
        go_wp2_with fail
        clear d0 d1 d2 d3 ltd
        clear o0 o1 o2 o3 lto
        clear x0 x1 x2 x3 ltx
        clear y0 y1 y2 y3 lty
        obtain ⟨d0, d1, d2, d3⟩ := Hd.out.cells
        have ltd := Hd.out.lt
        obtain ⟨o0, o1, o2, o3⟩ := Ho.out.cells
        have lto := Ho.out.lt
        obtain ⟨x0, x1, x2, x3⟩ := Hx.out.cells
        have ltx := Hx.out.lt
        obtain ⟨y0, y1, y2, y3⟩ := Hy.out.cells
        have lty := Hy.out.lt
        obtain ⟨z0, z1, z2, z3⟩ := Hz.out.cells
        have ltz := Hz.out.lt
        generalize w6.heap.size = Bz at Hz z0 z1 z2 z3 ltz ⊢
        generalize w5.heap.size = By at Hy y0 y1 y2 y3 lty ⊢
        generalize w4.heap.size = Bx at Hx x0 x1 x2 x3 ltx ⊢
        generalize w.heap.size = Bd at Hd d0 d1 d2 d3 ltd ⊢
        replace Hd := Lib.hid Hd.out.drew
        replace Ho := Lib.hid Ho.out.drew
        replace Hx := Lib.hid Hx.out.drew
        replace Hy := Lib.hid Hy.out.drew
        replace Hz := Lib.hid Hz.out.drew
        replace Ww := Lib.hid Ww.out.drew
        replace HW := Lib.hid HW.out.drew
        go_region_held3 (fun w' => w'.cell? ⟨Bd, 0, none⟩ = some (.int .i64 d.K) ∧ w'.cell? ⟨Bd, 1, none⟩ = some (.int .i64 d.S) ∧ w'.cell? ⟨Bd, 2, none⟩ = some (.slice An d.N.length cn) ∧ w'.cell? ⟨Bd, 3, none⟩ = some (.slice Aa d.A.length ca) ∧ w'.cell? ⟨Bx, 0, none⟩ = some (.int .i64 x.K) ∧ w'.cell? ⟨Bx, 1, none⟩ = some (.int .i64 x.S) ∧ w'.cell? ⟨Bx, 2, none⟩ = some (.slice Xn x.N.length xm) ∧ w'.cell? ⟨Bx, 3, none⟩ = some (.slice Xa x.A.length xb) ∧ w'.cell? ⟨By, 0, none⟩ = some (.int .i64 x.K) ∧ w'.cell? ⟨By, 1, none⟩ = some (.int .i64 x.S) ∧ w'.cell? ⟨By, 2, none⟩ = some (.slice Yn x.N.length ym) ∧ w'.cell? ⟨By, 3, none⟩ = some (.slice Ya x.A.length yb) ∧ w'.cell? ⟨Bz, 0, none⟩ = some (.int .i64 x.K) ∧ w'.cell? ⟨Bz, 1, none⟩ = some (.int .i64 x.S) ∧ w'.cell? ⟨Bz, 2, none⟩ = some (.slice Zn x.N.length zm) ∧ w'.cell? ⟨Bz, 3, none⟩ = some (.slice Za x.A.length zb))
          (go_keep)
          (first
                    | (go_at_call_of 58 Yn
                       refine (CE.out _ Yn Ya ym yb Hx.out.din Hy.out.din).mono ?_
                       rintro e wr0 ⟨rfl, hb0⟩
                       have Hd_r0 := Lib.hid (Hd.out.up hb0)
                       have Ho_r0 := Lib.hid (Ho.out.up hb0)
                       have Hx_r0 := Lib.hid (Hx.out.up hb0)
                       have Hy_r0 := Lib.hid (Hy.out.up hb0)
                       have Hz_r0 := Lib.hid (Hz.out.up hb0)
                       have Ww_r0 := Lib.hid (Ww.out.up hb0)
                       have HW_r0 := Lib.hid (bel_step HW.out hb0)
                       obtain ⟨d0_r0, d1_r0, d2_r0, d3_r0⟩ := Hd_r0.out.cells
                       obtain ⟨x0_r0, x1_r0, x2_r0, x3_r0⟩ := Hx_r0.out.cells
                       obtain ⟨y0_r0, y1_r0, y2_r0, y3_r0⟩ := Hy_r0.out.cells
                       obtain ⟨z0_r0, z1_r0, z2_r0, z3_r0⟩ := Hz_r0.out.cells
                       have ltd_r0 := Hd_r0.out.lt
                       have ltx_r0 := Hx_r0.out.lt
                       have lty_r0 := Hy_r0.out.lt
                       have ltz_r0 := Hz_r0.out.lt
                       clear hb0)
                    | (go_at_call_of 58 Zn
                       refine (CE.out _ Zn Za zm zb Hx_r0.out.din Hz_r0.out.din).mono ?_
                       rintro e wr1 ⟨rfl, hb1⟩
                       have Hd_r1 := Lib.hid (Hd_r0.out.up hb1)
                       have Ho_r1 := Lib.hid (Ho_r0.out.up hb1)
                       have Hx_r1 := Lib.hid (Hx_r0.out.up hb1)
                       have Hy_r1 := Lib.hid (Hy_r0.out.up hb1)
                       have Hz_r1 := Lib.hid (Hz_r0.out.up hb1)
                       have Ww_r1 := Lib.hid (Ww_r0.out.up hb1)
                       have HW_r1 := Lib.hid (bel_step HW_r0.out hb1)
                       obtain ⟨d0_r1, d1_r1, d2_r1, d3_r1⟩ := Hd_r1.out.cells
                       obtain ⟨x0_r1, x1_r1, x2_r1, x3_r1⟩ := Hx_r1.out.cells
                       obtain ⟨y0_r1, y1_r1, y2_r1, y3_r1⟩ := Hy_r1.out.cells
                       obtain ⟨z0_r1, z1_r1, z2_r1, z3_r1⟩ := Hz_r1.out.cells
                       have ltd_r1 := Hd_r1.out.lt
                       have ltx_r1 := Hx_r1.out.lt
                       have lty_r1 := Hy_r1.out.lt
                       have ltz_r1 := Hz_r1.out.lt
                       clear hb1)
                    | (go_at_call_of 29 Xn
                       refine (C29x.out _ Hx_r1.out.din Ww_r1.out).mono ?_
                       rintro e wr2 ⟨rfl, hb2⟩
                       have Hd_r2 := Lib.hid (Hd_r1.out.up hb2)
                       have Ho_r2 := Lib.hid (Ho_r1.out.up hb2)
                       have Hx_r2 := Lib.hid (Hx_r1.out.up hb2)
                       have Hy_r2 := Lib.hid (Hy_r1.out.up hb2)
                       have Hz_r2 := Lib.hid (Hz_r1.out.up hb2)
                       have Ww_r2 := Lib.hid (Ww_r1.out.up hb2)
                       have HW_r2 := Lib.hid (bel_step HW_r1.out hb2)
                       obtain ⟨d0_r2, d1_r2, d2_r2, d3_r2⟩ := Hd_r2.out.cells
                       obtain ⟨x0_r2, x1_r2, x2_r2, x3_r2⟩ := Hx_r2.out.cells
                       obtain ⟨y0_r2, y1_r2, y2_r2, y3_r2⟩ := Hy_r2.out.cells
                       obtain ⟨z0_r2, z1_r2, z2_r2, z3_r2⟩ := Hz_r2.out.cells
                       have ltd_r2 := Hd_r2.out.lt
                       have ltx_r2 := Hx_r2.out.lt
                       have lty_r2 := Hy_r2.out.lt
                       have ltz_r2 := Hz_r2.out.lt
                       clear hb2)
                    | (go_at_call_of 29 An
                       refine (C29d.out _ Hd_r2.out.din Ww_r2.out).mono ?_
                       rintro e wr3 ⟨rfl, hb3⟩
                       have Hd_r3 := Lib.hid (Hd_r2.out.up hb3)
                       have Ho_r3 := Lib.hid (Ho_r2.out.up hb3)
                       have Hx_r3 := Lib.hid (Hx_r2.out.up hb3)
                       have Hy_r3 := Lib.hid (Hy_r2.out.up hb3)
                       have Hz_r3 := Lib.hid (Hz_r2.out.up hb3)
                       have Ww_r3 := Lib.hid (Ww_r2.out.up hb3)
                       have HW_r3 := Lib.hid (bel_step HW_r2.out hb3)
                       obtain ⟨d0_r3, d1_r3, d2_r3, d3_r3⟩ := Hd_r3.out.cells
                       obtain ⟨x0_r3, x1_r3, x2_r3, x3_r3⟩ := Hx_r3.out.cells
                       obtain ⟨y0_r3, y1_r3, y2_r3, y3_r3⟩ := Hy_r3.out.cells
                       obtain ⟨z0_r3, z1_r3, z2_r3, z3_r3⟩ := Hz_r3.out.cells
                       have ltd_r3 := Hd_r3.out.lt
                       have ltx_r3 := Hx_r3.out.lt
                       have lty_r3 := Hy_r3.out.lt
                       have ltz_r3 := Hz_r3.out.lt
                       clear hb3))
        all_goals
          go_wp2_with fail
          go_ret
          exact ⟨ret_bool (by first | rfl | simp), HW_r3.out⟩
theorem tightLeast_law (d : D) (ws : List Int) (t : Int) (An Aa A : Option Addr) (cn ca cw : Nat) (w : World) (hd : DIn w d An Aa) (hw : WIn w ws A) (ht : 0 ≤ t ∧ t < 256) :
    Calls Try.prog 15 #[dfaV d.K d.S An d.N.length cn Aa d.A.length ca, .slice A ws.length cw, .int .u8 t] w (Ret (.bool true) w) := by
  rcases hg : d.great with _ | _
  · by_cases hl : 200 < ws.length
    · exact tightLeast_long d ws t An Aa A cn ca cw w hd hw hg hl
    · rcases hr : d.right with _ | _
      · exact tightLeast_no d ws t An Aa A cn ca cw w hd hw hg hl hr
      · exact tightLeast_main d ws t An Aa A cn ca cw w hd hw ht hg hl hr
  · exact tightLeast_great d ws t An Aa A cn ca cw w hd hw hg
end Go.Proofs.Ytmpcoclgcldclaa
