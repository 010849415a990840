/- The walk of dfa.chain, where there is one. -/
import Derived.Test.YtmpcoclgcldclaaH
import Derived.Deep.Onto
namespace Go.Proofs.Ytmpcoclgcldclaa
open Go.RowKit

theorem Maker.stored {w : World} {g base : Nat} {K S : Int} {gN cN : Nat} {N : List Int} {AA : Option Addr} {cA : Nat} {A : List Bool}
    (h : Maker w g base K S (some ⟨gN, 0, none⟩) cN N AA cA A) (i : Nat) (v : Int) : Maker (w.setCell ⟨gN, i, none⟩ (.int .i64 v)) g base K S (some ⟨gN, 0, none⟩) cN (N.set i v) AA cA A := by
  have hn : (Value.slice (some ⟨gN, 0, none⟩) N.length cN).ownBlock = some gN := rfl
  refine ⟨?_, ?_, ?_⟩
  · rw [List.length_set]
    refine h.blk.far (fun e => ?_) _
    exact own_ne_blk h.next h.blk (by decide) (by rw [hn, e])
  · rw [List.length_set, List.map_set]
    exact (h.next.stored i _).1
  · refine ownsRow_setCell_other h.acc ?_ _
    exact own_ne_own h.acc h.next (by decide) hn
theorem Maker.touch {w w' : World} {g base : Nat} {K S : Int} {AN AA : Option Addr} {cN cA : Nat} {N : List Int} {A : List Bool} {T : Nat → Prop}
    (h : Maker w g base K S AN cN N AA cA A) (ht : Touch T w w') (hT : ∀ k, MakerS g AN N.length cN AA A.length cA k → ¬ T k) : Maker w' g base K S AN cN N AA cA A :=
  ⟨h.blk.touch ht (hT g (.inl rfl)), own_touch h.next ht fun k hk => hT k (.inr (.inl hk)), own_touch h.acc ht fun k hk => hT k (.inr (.inr hk))⟩
theorem Maker.drew {w : World} {g base : Nat} {K S : Int} {AN AA : Option Addr} {cN cA : Nat} {N : List Int} {A : List Bool}
    (h : Maker w g base K S AN cN N AA cA A) : Maker w.drew g base K S AN cN N AA cA A := ⟨h.blk, h.next, h.acc⟩
/-- where the maker's own blocks begin -/
theorem Maker.ge {w : World} {g base : Nat} {K S : Int} {AN AA : Option Addr} {cN cA : Nat} {N : List Int} {A : List Bool}
    (h : Maker w g base K S AN cN N AA cA A) (hb : base ≤ g) : ∀ k, MakerS g AN N.length cN AA A.length cA k → base ≤ k := by
  rintro k (rfl | hk | hk)
  · exact hb
  · exact (h.next.lt k hk).1
  · exact (h.acc.lt k hk).1
theorem Maker.made (w : World) (K : Int) (S : Int) : Maker (w.alloc (.cells #[.int .i64 K, .int .i64 S, .slice none 0 0, .slice none 0 0] 79)) w.heap.size w.heap.size K S none 0 [] none 0 [] :=
  ⟨Blk.new _ _ _, World.ownsRow_nil _ _ _ _, World.ownsRow_nil _ _ _ _⟩

theorem replicate_snoc {α} (n : Nat) (a : α) : List.replicate n a ++ [a] = List.replicate (n + 1) a := by
  rw [← List.replicate_succ']
theorem chain_round {k j : Nat} {ws N : List Int} {A : List Bool} {x : Int} (hN : N = chN k (ws.take j)) (hA : A = List.replicate (j + 1) false) (hj : j < ws.length) (hx : ws[j]? = some x) (h0 : 0 ≤ x) :
    Hid ((N ++ List.replicate k 0).set ((A.length : Int) * k + x).toNat ((A.length : Int) + 1) = chN k (ws.take (j + 1))) := by
  show _ = _
  have hl : (ws.take j).length = j := by rw [List.length_take]; omega
  have hAl : A.length = j + 1 := by rw [hA, List.length_replicate]
  rw [take_snoc hx, chN_snoc, hl, ← hN, hAl]
  obtain ⟨x', rfl⟩ := Int.eq_ofNat_of_zero_le h0
  have e1 : (((j + 1 : Nat) : Int) * k + (x' : Int)).toNat = (j + 1) * k + x' := by
    rw [show ((j + 1 : Nat) : Int) * k + (x' : Int) = (((j + 1) * k + x' : Nat) : Int) by simp]
    exact Int.toNat_natCast _
  have e2 : ((j + 1 : Nat) : Int) + 1 = (j : Int) + 2 := by omega
  rw [e1, e2, Int.toNat_natCast]

theorem touch4 (w : World) (b : Nat) (u0 u1 u2 u3 : Value) : Touch (fun j => j = b) w ((((w.setCell ⟨b, 0, none⟩ u0).setCell ⟨b, 1, none⟩ u1).setCell ⟨b, 2, none⟩ u2).setCell ⟨b, 3, none⟩ u3) :=
  Touch.setCell (Touch.setCell (Touch.setCell (Touch.setCell (Touch.refl (fun j => j = b) w) (p := ⟨b, 0, none⟩) (fun _ => rfl) u0) (p := ⟨b, 1, none⟩) (fun _ => rfl) u1) (p := ⟨b, 2, none⟩) (fun _ => rfl) u2) (p := ⟨b, 3, none⟩) (fun _ => rfl) u3
theorem chain_end {w W3 w2 : World} {g k : Nat} {ws : List Int} {st : Bool} {N : List Int} {A : List Bool} {AN AA : Option Addr} {cN cA : Nat} (hg : g = w.heap.size + 1 + 1)
    (hm : Maker w2 g g k 1 AN cN N AA cA A) (hb : Blk W3 (w.heap.size + 1) 25 #[.int .i64 0, .int .i64 0, .slice none 0 0, .slice none 0 0]) (ht : Touch (fun j => g ≤ j) W3 w2) (hbl : Below w.heap.size w W3)
    (hN : N = chN k ws ++ List.replicate k (chTo ws st)) (hA : A = List.replicate (ws.length + 1) false ++ [true]) {W : World} (htw : Touch (fun j => j = w.heap.size + 1) w2 W) :
    ∃ v, Ending.returned (.tuple #[dfaV k 1 AN N.length cN AA A.length cA, .int .i64 0]) = .returned (.tuple #[v, .int .i64 0]) ∧ DfaR W w.heap.size v (chainD k ws st) ∧ Below w.heap.size w W := by
  refine ⟨_, rfl, ⟨AN, cN, AA, cA, ?_, ?_, ?_⟩, ?_⟩
  · show _ = dfaV k 1 AN (chN k ws ++ List.replicate k (chTo ws st)).length cN AA (List.replicate (ws.length + 1) false ++ [true]).length cA
    rw [← hN, ← hA]
  · show W.ownsRow w.heap.size 3 1 (.slice AN (chN k ws ++ List.replicate k (chTo ws st)).length cN) (chN k ws ++ List.replicate k (chTo ws st)).length ((chN k ws ++ List.replicate k (chTo ws st)).map (Value.int .i64))
    rw [← hN]
    exact (own_touch hm.next htw fun j hj e => by have := (hm.next.lt j hj).1; omega).mono (by omega)
  · show W.ownsRow w.heap.size 4 1 (.slice AA (List.replicate (ws.length + 1) false ++ [true]).length cA) (List.replicate (ws.length + 1) false ++ [true]).length ((List.replicate (ws.length + 1) false ++ [true]).map Value.bool)
    rw [← hA]
    exact (own_touch hm.acc htw fun j hj e => by have := (hm.acc.lt j hj).1; omega).mono (by omega)
  · have hl := hb.lt
    have hs := ht.size
    exact (hbl.trans (ht.toBelow (B := w.heap.size) (by omega) (fun j hj h => by omega))).trans (htw.toBelow (by omega) fun j hj h => by omega)

set_option maxHeartbeats 4000000 in
set_option maxRecDepth 100000 in
theorem chain_yes (k : Nat) (ws : List Int) (Aw : Option Addr) (cw : Nat) (st : Bool) (w : World)
    (hw : ws.length ≤ 60000) (hr : Rd w w.heap.size Aw (ws.map (Value.int .i64))) (hk1 : 1 ≤ k) (hk2 : k ≤ 512) (hsy : symsB k ws = true) :
    Calls Try.prog 81 #[.int .i64 k, .slice Aw ws.length cw, .bool st] w fun e w' => ∃ v, e = .returned (.tuple #[v, .int .i64 0]) ∧ DfaR w' w.heap.size v (chainD k ws st) ∧ Below w.heap.size w w' := by
  have HR := Lib.hid hr; clear hr
  have hmf : ∀ (fn : Fn) (first cap : Array Value) (w : World), (Instr.makeFunc fn first cap).run Try.prog w = .ok (.func fn first cap) w := fun _ _ _ _ => rfl
  have hany : ws.any (outI k) = false := by rw [outI_any, hsy]; rfl
  have HSY := Lib.hid hsy; clear hsy
  have HA := Lib.hid hany; clear hany
  have hcont := fun (W : World) (a : Addr) (hR : Rd W W.heap.size Aw (ws.map (Value.int .i64))) (hc : W.cell? a = some (.int .i64 k)) =>
      containsFunc_any 113 #[.pointer (some a)] (outI k) W W.heap.size Aw cw ws (by omega) hR (fun x _ => chain_lit k a W x hc) Try.enters113
  have HC := Lib.hid hcont
  clear hcont
  go_enter Try.func81, Try.ntmps81
  go_wp2_with fail
  refine (HC.out _ _ ?_ ?_).mono ?_
  · exact ((HR.out.alloc (Nat.le_refl _) _).alloc (by simp) _).more (by simp; omega)
  · simp
  rintro e w' ⟨rfl, rfl⟩
  rw [HA.out]
  go_wp2_with fail
  have hM0 : Maker (((w.alloc (.cells #[.int .i64 k] 3)).alloc (.cells #[.int .i64 0, .int .i64 0, .slice none 0 0, .slice none 0 0] 25)).alloc (.cells #[.int .i64 k, .int .i64 1, .slice none 0 0, .slice none 0 0] 79)) (w.heap.size + 1 + 1) (w.heap.size + 1 + 1) k 1 none 0 [] none 0 [] := by
    have h := Maker.made ((w.alloc (.cells #[.int .i64 k] 3)).alloc (.cells #[.int .i64 0, .int .i64 0, .slice none 0 0, .slice none 0 0] 25)) k 1
    simpa using h
  have hB0 : Blk (((w.alloc (.cells #[.int .i64 k] 3)).alloc (.cells #[.int .i64 0, .int .i64 0, .slice none 0 0, .slice none 0 0] 25)).alloc (.cells #[.int .i64 k, .int .i64 1, .slice none 0 0, .slice none 0 0] 79)) w.heap.size 3 #[.int .i64 k] := ((Blk.new w 3 _).alloc _).alloc _
  have hB1 : Blk (((w.alloc (.cells #[.int .i64 k] 3)).alloc (.cells #[.int .i64 0, .int .i64 0, .slice none 0 0, .slice none 0 0] 25)).alloc (.cells #[.int .i64 k, .int .i64 1, .slice none 0 0, .slice none 0 0] 79)) (w.heap.size + 1) 25 #[.int .i64 0, .int .i64 0, .slice none 0 0, .slice none 0 0] := by
    have h := (Blk.new (w.alloc (.cells #[.int .i64 k] 3)) 25 #[.int .i64 0, .int .i64 0, .slice none 0 0, .slice none 0 0]).alloc (.cells #[.int .i64 k, .int .i64 1, .slice none 0 0, .slice none 0 0] 79)
    simpa using h
  have hBel : Below w.heap.size w (((w.alloc (.cells #[.int .i64 k] 3)).alloc (.cells #[.int .i64 0, .int .i64 0, .slice none 0 0, .slice none 0 0] 25)).alloc (.cells #[.int .i64 k, .int .i64 1, .slice none 0 0, .slice none 0 0] 79)) :=
    (((Below.refl _ _).alloc (Nat.le_refl _) _).alloc (by simp) _).alloc (by simp; omega) _
  have hsz : w.heap.size + 1 + 1 < (((w.alloc (.cells #[.int .i64 k] 3)).alloc (.cells #[.int .i64 0, .int .i64 0, .slice none 0 0, .slice none 0 0] 25)).alloc (.cells #[.int .i64 k, .int .i64 1, .slice none 0 0, .slice none 0 0] 79)).heap.size := hM0.blk.lt
  generalize ((w.alloc (.cells #[.int .i64 k] 3)).alloc (.cells #[.int .i64 0, .int .i64 0, .slice none 0 0, .slice none 0 0] 25)).alloc (.cells #[.int .i64 k, .int .i64 1, .slice none 0 0, .slice none 0 0] 79) = W3 at hM0 hB0 hB1 hBel hsz ⊢
  obtain ⟨g, hg⟩ : ∃ g, g = w.heap.size + 1 + 1 := ⟨_, rfl⟩
  rw [← hg] at hM0 hsz ⊢
  have hgb : w.heap.size + 1 < g := by omega
  have HG := Lib.hid hg; clear hg
  have HM0 := Lib.hid hM0; have HB0 := Lib.hid hB0; have HB1 := Lib.hid hB1; have HBel := Lib.hid hBel
  clear hM0 hB0 hB1 hBel
  refine (state_any g g k 1 none 0 [] none 0 [] false 0 W3 hk1 (by omega) (by simp) (by simp) (by omega) HM0.out).mono ?_
  rintro e w1 ⟨rfl, AN', cN', AA', cA', hm1, ht1⟩
  have HM1 : Hid (Maker w1 g g k 1 AN' cN' (chN k []) AA' cA' [false]) := by
    have e1 : chN k [] = [] ++ List.replicate k 0 := by simp [chN, chP]
    rw [e1]; exact hm1
  have HT1 : Hid (Touch (fun j => g ≤ j) W3 w1) := ht1.mono fun j _ h => HM0.out.ge (Nat.le_refl _) j h
  clear hm1 ht1
  go_wp2_with fail
  go_loopw [10, 11, 38] (fun _ _ i wr => ∃ j : Nat, j ≤ ws.length ∧ i = .int .i64 j ∧ ∃ N A AN cN AA cA, Hid (Maker wr g g k 1 AN cN N AA cA A) ∧ Hid (N = chN k (ws.take j)) ∧ Hid (A = List.replicate (j + 1) false) ∧ Hid (Touch (fun j => g ≤ j) W3 wr)) (fun _ _ i _ => ws.length - (intOf i).toNat)
  case atStart => exact ⟨0, Nat.zero_le _, rfl, _, _, _, _, _, _, HM1, rfl, rfl, HT1⟩
  case round =>
    obtain ⟨j, hj, rfl, N, A, AN, cN, AA, cA, HM, HN, HAA, HT⟩ := hrel
    clear HM1 HT1
    have hbw : Below w.heap.size w wr := HBel.out.trans ((HT.out.toBelow (Nat.le_of_lt hsz) (fun k hk h => by omega)).mono (by omega))
    have HBW := Lib.hid hbw; clear hbw
    have q0 : wr.cell? ⟨w.heap.size, 0, none⟩ = some (.int .i64 k) := by rw [(HB0.out.touch HT.out (by omega)).cell]; rfl
    have hNl : N.length ≤ 1000000000 := by
      rw [HN.out, chN_length]
      have h1 : (ws.take j).length ≤ 60000 := by rw [List.length_take]; omega
      exact Nat.le_trans (Nat.mul_le_mul (show (ws.take j).length + 1 ≤ 60001 by omega) hk2) (by omega)
    have hAl : A.length ≤ 60001 := by rw [HAA.out, List.length_replicate]; omega
    have hgl : g ≤ wr.heap.size := by have := HT.out.size; omega
    by_cases hlt : j < ws.length
    · obtain ⟨b, o, x, rfl, hb, hc, hx⟩ := (HR.out.below HBW.out).int_at hlt
      have hxr := symsB_iff.1 HSY.out x (List.mem_of_getElem? hx)
      obtain ⟨hx0, hx1⟩ := hxr
      have HX := Lib.hid hx; clear hx
      go_wp2_with fail
      refine (state_any g g k 1 AN cN N AA cA A false 0 wr hk1 (by omega) hNl (by omega) hgl HM.out).mono ?_
      rintro e w2 ⟨rfl, AN', cN', AA', cA', hm2, ht2⟩
      have HT2 : Hid (Touch (fun j => g ≤ j) W3 w2) := HT.out.trans' ht2 fun j hj h => HM.out.ge (Nat.le_refl _) j h
      have q0 : w2.cell? ⟨w.heap.size, 0, none⟩ = some (.int .i64 k) := by rw [(HB0.out.touch HT2.out (by omega)).cell]; rfl
      clear ht2
      obtain ⟨gN, capN, hAN, _, _⟩ := hm2.next.form (by rw [List.length_append, List.length_replicate]; omega)
      obtain ⟨rfl, hcN⟩ : AN' = some ⟨gN, 0, none⟩ ∧ True := ⟨by injection hAN, trivial⟩
      clear hAN hcN
      obtain ⟨N', hN'⟩ : ∃ N', N' = N ++ List.replicate k 0 := ⟨_, rfl⟩
      rw [← hN'] at hm2
      have q2 : w2.cell? ⟨g, 2, none⟩ = some (.slice (some ⟨gN, 0, none⟩) N'.length cN') := by rw [hm2.blk.cell]; rfl
      have HM2 := Lib.hid hm2; clear hm2
      have hNk : (N.length : Int) = A.length * k := by
        rw [HN.out, HAA.out, chN_length, List.length_replicate, List.length_take]
        rw [show min j ws.length = j by omega]
        simp
      have hN'l : (N'.length : Int) = A.length * k + k := by rw [hN', List.length_append, List.length_replicate, ← hNk]; simp
      have hi0 : 0 ≤ (A.length : Int) * k := by rw [← hNk]; omega
      have hi1 : (A.length : Int) * k ≤ 1000000000 := by rw [← hNk]; omega
      have hi2 : (0 : Int) ≤ A.length * k + x := by omega
      have hi3 : (A.length : Int) * k + x < N'.length := by rw [hN'l]; omega
      have HN' := Lib.hid hN'; have HNK := Lib.hid hNk
      clear hN' hNk hN'l
      have hw1 : IntKind.i64.wrap ((A.length : Int) * k) = (A.length : Int) * k := by rw [IntKind.wrap_i64]; omega
      have hw2 : IntKind.i64.wrap ((A.length : Int) * k + x) = (A.length : Int) * k + x := by rw [IntKind.wrap_i64]; omega
      have hw3 : IntKind.i64.wrap ((A.length : Int) + 1) = (A.length : Int) + 1 := by rw [IntKind.wrap_i64]; omega
      obtain ⟨y, qt⟩ : ∃ y, w2.cell? ⟨gN, ((A.length : Int) * k + x).toNat, none⟩ = some (.int .i64 y) := by
        have hlt' : ((A.length : Int) * k + x).toNat < (N'.map (Value.int .i64)).length := by rw [List.length_map]; omega
        refine ⟨N'[((A.length : Int) * k + x).toNat]'(by omega), ?_⟩
        rw [HM2.out.next.cellAt _ (by omega), List.getElem?_eq_getElem hlt', List.getElem_map]
      have rt : w2.frozen? ⟨gN, ((A.length : Int) * k + x).toNat, none⟩ = false := HM2.out.next.frozenAt _
      have HI3 := Lib.hid hi3
      go_wp2_with fail
      go_region
      go_wp2_with fail
      have HM3 := Lib.hid (HM2.out.stored ((A.length : Int) * k + x).toNat ((A.length : Int) + 1)).drew
      have HT3 : Hid (Touch (fun j => g ≤ j) W3 (w2.setCell ⟨gN, ((A.length : Int) * k + x).toNat, none⟩ (.int .i64 ((A.length : Int) + 1))).drew) := (HT2.out.setCell (fun _ => (HM2.out.next.lt gN rfl).1) _).drew
      go_roundw
      case rel => exact ⟨j + 1, by omega, by go_num, _, _, _, _, _, _, HM3, by rw [HN'.out]; exact chain_round HN.out HAA.out hlt HX.out hx0, by rw [HAA.out]; exact replicate_snoc _ _, HT3⟩
      case measure => simp [intOf]; omega
    · have hjl : j = ws.length := by omega
      have HJL := Lib.hid hjl; clear hjl
      have q3 : wr.cell? ⟨g, 3, none⟩ = some (.slice AA A.length cA) := by rw [HM.out.blk.cell]; rfl
      cases st
      · go_wp2_with fail
        refine (state_any g g k 1 AN cN N AA cA A true 0 wr hk1 (by omega) hNl (by omega) hgl HM.out).mono ?_
        rintro e w2 ⟨rfl, AN', cN', AA', cA', hm2, ht2⟩
        have HT2 : Hid (Touch (fun j => g ≤ j) W3 w2) := HT.out.trans' ht2 fun j hj h => HM.out.ge (Nat.le_refl _) j h
        clear ht2
        have hb1 := HB1.out.touch HT2.out (by omega)
        have p0 : w2.cell? ⟨w.heap.size + 1, 0, none⟩ = some (.int .i64 0) := by rw [hb1.cell]; rfl
        have p1 : w2.cell? ⟨w.heap.size + 1, 1, none⟩ = some (.int .i64 0) := by rw [hb1.cell]; rfl
        have p2 : w2.cell? ⟨w.heap.size + 1, 2, none⟩ = some (.slice none 0 0) := by rw [hb1.cell]; rfl
        have p3 : w2.cell? ⟨w.heap.size + 1, 3, none⟩ = some (.slice none 0 0) := by rw [hb1.cell]; rfl
        have z0 := hb1.frozen 0
        have z1 := hb1.frozen 1
        have z2 := hb1.frozen 2
        have z3 := hb1.frozen 3
        clear hb1
        obtain ⟨N', hN'⟩ : ∃ N', N' = N ++ List.replicate k 0 := ⟨_, rfl⟩
        rw [← hN'] at hm2
        have HN' := Lib.hid hN'; clear hN'
        obtain ⟨A', hA'⟩ : ∃ A', A' = A ++ [true] := ⟨_, rfl⟩
        rw [← hA'] at hm2
        have HA' := Lib.hid hA'; clear hA'
        have q0 : w2.cell? ⟨g, 0, none⟩ = some (.int .i64 k) := by rw [hm2.blk.cell]; rfl
        have q1 : w2.cell? ⟨g, 1, none⟩ = some (.int .i64 1) := by rw [hm2.blk.cell]; rfl
        have q2 : w2.cell? ⟨g, 2, none⟩ = some (.slice AN' N'.length cN') := by rw [hm2.blk.cell]; rfl
        have q3 : w2.cell? ⟨g, 3, none⟩ = some (.slice AA' A'.length cA') := by rw [hm2.blk.cell]; rfl
        have HM2 := Lib.hid hm2; clear hm2
        have HEN : Hid (N' = chN k ws ++ List.replicate k (chTo ws false)) := by
          show _ = _
          rw [HN'.out, HN.out, HJL.out, List.take_length]
          rfl
        have HEA : Hid (A' = List.replicate (ws.length + 1) false ++ [true]) := by
          show _ = _
          rw [HA'.out, HAA.out, HJL.out]
        have hgb' : g ≠ w.heap.size + 1 := by omega
        go_wp2_with fail
        refine bodyPost_ret (v := .tuple #[dfaV k 1 AN' N'.length cN' AA' A'.length cA', .int .i64 0]) ?_ rfl ?_
        · simp [results, Try.results81, go_sem, p0, p1, p2, p3]
        · exact chain_end (ws := ws) (st := false) HG.out HM2.out HB1.out HT2.out HBel.out HEN.out HEA.out (touch4 _ _ _ _ _ _)
      · go_wp2_with fail
        refine (state_any g g k 1 AN cN N AA cA A true (A.length : Int) wr hk1 (by omega) hNl (by omega) hgl HM.out).mono ?_
        rintro e w2 ⟨rfl, AN', cN', AA', cA', hm2, ht2⟩
        have HT2 : Hid (Touch (fun j => g ≤ j) W3 w2) := HT.out.trans' ht2 fun j hj h => HM.out.ge (Nat.le_refl _) j h
        clear ht2
        have hb1 := HB1.out.touch HT2.out (by omega)
        have p0 : w2.cell? ⟨w.heap.size + 1, 0, none⟩ = some (.int .i64 0) := by rw [hb1.cell]; rfl
        have p1 : w2.cell? ⟨w.heap.size + 1, 1, none⟩ = some (.int .i64 0) := by rw [hb1.cell]; rfl
        have p2 : w2.cell? ⟨w.heap.size + 1, 2, none⟩ = some (.slice none 0 0) := by rw [hb1.cell]; rfl
        have p3 : w2.cell? ⟨w.heap.size + 1, 3, none⟩ = some (.slice none 0 0) := by rw [hb1.cell]; rfl
        have z0 := hb1.frozen 0
        have z1 := hb1.frozen 1
        have z2 := hb1.frozen 2
        have z3 := hb1.frozen 3
        clear hb1
        obtain ⟨N', hN'⟩ : ∃ N', N' = N ++ List.replicate k (A.length : Int) := ⟨_, rfl⟩
        rw [← hN'] at hm2
        have HN' := Lib.hid hN'; clear hN'
        obtain ⟨A', hA'⟩ : ∃ A', A' = A ++ [true] := ⟨_, rfl⟩
        rw [← hA'] at hm2
        have HA' := Lib.hid hA'; clear hA'
        have q0 : w2.cell? ⟨g, 0, none⟩ = some (.int .i64 k) := by rw [hm2.blk.cell]; rfl
        have q1 : w2.cell? ⟨g, 1, none⟩ = some (.int .i64 1) := by rw [hm2.blk.cell]; rfl
        have q2 : w2.cell? ⟨g, 2, none⟩ = some (.slice AN' N'.length cN') := by rw [hm2.blk.cell]; rfl
        have q3 : w2.cell? ⟨g, 3, none⟩ = some (.slice AA' A'.length cA') := by rw [hm2.blk.cell]; rfl
        have HM2 := Lib.hid hm2; clear hm2
        have HEN : Hid (N' = chN k ws ++ List.replicate k (chTo ws true)) := by
          show _ = _
          rw [HN'.out, HN.out, HJL.out, List.take_length]
          rw [HAA.out, List.length_replicate, HJL.out]; simp only [chTo, if_true]; norm_cast
        have HEA : Hid (A' = List.replicate (ws.length + 1) false ++ [true]) := by
          show _ = _
          rw [HA'.out, HAA.out, HJL.out]
        have hgb' : g ≠ w.heap.size + 1 := by omega
        go_wp2_with fail
        refine bodyPost_ret (v := .tuple #[dfaV k 1 AN' N'.length cN' AA' A'.length cA', .int .i64 0]) ?_ rfl ?_
        · simp [results, Try.results81, go_sem, p0, p1, p2, p3]
        · exact chain_end (ws := ws) (st := true) HG.out HM2.out HB1.out HT2.out HBel.out HEN.out HEA.out (touch4 _ _ _ _ _ _)
end Go.Proofs.Ytmpcoclgcldclaa
