/- The walk of the reference's Pairs. -/
import Derived.Test.YtmpcoclgcldclaaS
import Derived.Test.YtmpcoclgcldclaaW2
import Derived.Deep.RegionHeld3
import Derived.Deep.DrawnRows
namespace Go.Proofs.Ytmpcoclgcldclaa
open Go.RowKit

theorem Try.info86 : (Try.prog.info? 86).map (fun i => (i.zero, i.size, i.bytes)) = some (some (.agg #[.int .i64 0, .int .i64 0]), 2, 16) := by kernel_rfl
theorem Rd2.of_own {w : World} {base B : Nat} {e : TypeId} {A : Option Addr} {n c : Nat} {L : List (Int × Int)} (h : w.ownsRow base e 2 (.slice A n c) n (flat2 L)) (hB : w.heap.size ≤ B) : Rd2 w B A L := by
  intro hl
  have hn : 0 < n := by have := h.1; omega
  rcases h.2 with ⟨h0, h1⟩ | ⟨g, cap, cur, hv, hb, hh, hnc, hm, hs, hx⟩
  · omega
  · have hA : A = some ⟨g, 0, none⟩ := by injection hv
    refine ⟨g, 0, hA, Nat.lt_of_lt_of_le (lt_of_heap hh) hB, fun j u hu => ?_⟩
    rw [cell_of_row w g _ cur e (0, 0) hh, Nat.zero_add, ← hu, ← hx, List.getElem?_take_of_lt]
    · simp
    · have := (List.getElem?_eq_some_iff.1 hu).1
      have := h.1
      omega

set_option maxHeartbeats 4000000 in
set_option maxRecDepth 100000 in
theorem pairs_any (a b : D) (Aan Aaa Abn Aba : Option Addr) (can caa cbn cba : Nat) (w : World) (ha : a.Ok) (hb : b.Ok) (hK : a.K = b.K) (hsz : a.A.length * b.A.length ≤ 1000000)
    (han : Rd w w.heap.size Aan (a.N.map (Value.int .i64))) (hbn : Rd w w.heap.size Abn (b.N.map (Value.int .i64))) :
    Calls Try.prog 85 #[dfaV a.K a.S Aan a.N.length can Aaa a.A.length caa, dfaV b.K b.S Abn b.N.length cbn Aba b.A.length cba] w fun e w' =>
      ∃ (A : Option Addr) (c : Nat) (L : List (Int × Int)), e = .returned (.slice A L.length c) ∧ w'.ownsRow w.heap.size 86 2 (.slice A L.length c) L.length (flat2 L) ∧ PInv a b L L.length 0 ∧ Below w.heap.size w w' := by
  have HAN := Lib.hid han; have HBN := Lib.hid hbn; have HA := Lib.hid ha; have HB := Lib.hid hb; have HK := Lib.hid hK; have HSZ := Lib.hid hsz
  clear han hbn ha hb hK hsz
  go_enter Try.func85, Try.ntmps85
  go_wp2_with fail
  have hk0 := ((Blk.new w 25 #[.int .i64 a.K, .int .i64 a.S, .slice Aan a.N.length can, .slice Aaa a.A.length caa]).alloc (.cells #[.int .i64 b.K, .int .i64 b.S, .slice Abn b.N.length cbn, .slice Aba b.A.length cba] 25)).alloc (.cells #[.int .i64 a.S, .int .i64 b.S] 86)
  have hk1 := (Blk.new (w.alloc (.cells #[.int .i64 a.K, .int .i64 a.S, .slice Aan a.N.length can, .slice Aaa a.A.length caa] 25)) 25 #[.int .i64 b.K, .int .i64 b.S, .slice Abn b.N.length cbn, .slice Aba b.A.length cba]).alloc (.cells #[.int .i64 a.S, .int .i64 b.S] 86)
  have ho0 := World.ownsRow_lit (base := w.heap.size) (e := 86) (size := 2) ((w.alloc (.cells #[.int .i64 a.K, .int .i64 a.S, .slice Aan a.N.length can, .slice Aaa a.A.length caa] 25)).alloc (.cells #[.int .i64 b.K, .int .i64 b.S, .slice Abn b.N.length cbn, .slice Aba b.A.length cba] 25)) #[.int .i64 a.S, .int .i64 b.S] 1 (by simp; omega) (by decide) rfl
  have hbl : Below w.heap.size w (((w.alloc (.cells #[.int .i64 a.K, .int .i64 a.S, .slice Aan a.N.length can, .slice Aaa a.A.length caa] 25)).alloc (.cells #[.int .i64 b.K, .int .i64 b.S, .slice Abn b.N.length cbn, .slice Aba b.A.length cba] 25)).alloc (.cells #[.int .i64 a.S, .int .i64 b.S] 86)) := (((Below.refl _ _).alloc (Nat.le_refl _) _).alloc (by simp) _).alloc (by simp; omega) _
  simp only [size_alloc_one] at hk1 ho0
  generalize ((w.alloc (.cells #[.int .i64 a.K, .int .i64 a.S, .slice Aan a.N.length can, .slice Aaa a.A.length caa] 25)).alloc (.cells #[.int .i64 b.K, .int .i64 b.S, .slice Abn b.N.length cbn, .slice Aba b.A.length cba] 25)).alloc (.cells #[.int .i64 a.S, .int .i64 b.S] 86) = W3 at hk0 hk1 ho0 hbl ⊢
  have HK0 := Lib.hid hk0; have HK1 := Lib.hid hk1; have HO := Lib.hid ho0; have HBL := Lib.hid hbl
  clear hk0 hk1 ho0 hbl
  go_loopw [5, 6, 7, 8, 9] (fun l i _ _ _ wr => ∃ (k : Nat) (L : List (Int × Int)) (A : Option Addr) (c : Nat), l = .slice A L.length c ∧ i = .int .i64 k ∧ k ≤ L.length ∧ Hid (PInv a b L k 0) ∧ Hid (wr.ownsRow w.heap.size 86 2 (.slice A L.length c) L.length (flat2 L)) ∧
      Hid (Blk wr w.heap.size 25 #[.int .i64 a.K, .int .i64 a.S, .slice Aan a.N.length can, .slice Aaa a.A.length caa]) ∧ Hid (Blk wr (w.heap.size + 1) 25 #[.int .i64 b.K, .int .i64 b.S, .slice Abn b.N.length cbn, .slice Aba b.A.length cba]) ∧ Hid (Below w.heap.size w wr))
    (fun _ i _ _ _ _ => a.A.length * b.A.length - (intOf i).toNat)
  case atStart => exact ⟨0, [(a.S, b.S)], _, _, rfl, rfl, by simp, PInv.init a b, HO, HK0, HK1, HBL⟩
  case round =>
    clear HO HK0 HK1 HBL
    obtain ⟨k, L, A, c, rfl, rfl, hkL, HP, HO, HK0, HK1, HBL⟩ := hrel
    have hLl := HP.out.len HA.out HB.out HK.out
    have hL1 : L.length ≤ 1000000 := Nat.le_trans hLl HSZ.out
    have HLl := Lib.hid hLl; clear hLl
    by_cases hlt : k < L.length
    · obtain ⟨g, o, p, rfl, hg, hc1, hc2, hp⟩ := (Rd2.of_own HO.out (Nat.le_refl _)).at_ hlt
      obtain ⟨p1, p2⟩ := p
      have HPK := Lib.hid hp; clear hp
      go_wp2_with fail
      have hq0 := Blk.new wr 86 #[.int .i64 p1, .int .i64 p2]
      have hk0 := HK0.out.alloc (.cells #[.int .i64 p1, .int .i64 p2] 86)
      have hk1 := HK1.out.alloc (.cells #[.int .i64 p1, .int .i64 p2] 86)
      have ho0 := HO.out.alloc (.cells #[.int .i64 p1, .int .i64 p2] 86)
      have hbl := HBL.out.alloc HBL.out.size (.cells #[.int .i64 p1, .int .i64 p2] 86)
      have hlt1 := HK1.out.lt
      have hnb : (Value.slice (some ⟨g, o, none⟩) L.length c).ownBlock ≠ some wr.heap.size := fun e => by have := (HO.out.lt _ e).2; omega
      generalize wr.alloc (.cells #[.int .i64 p1, .int .i64 p2] 86) = W4 at hq0 hk0 hk1 ho0 hbl ⊢
      generalize hbp : wr.heap.size = bp at hq0 hlt1 hnb ⊢
      clear hbp
      have HQ0 := Lib.hid hq0; have HK0' := Lib.hid hk0; have HK1' := Lib.hid hk1; have HO' := Lib.hid ho0; have HBL' := Lib.hid hbl; have HNB := Lib.hid hnb
      clear hnb hq0 hk0 hk1 ho0 hbl HO HK0 HK1 HBL
      have hkp : 1 ≤ a.K := HA.out.1
      go_loopw [5, 8, 9] (fun l x _ wi => ∃ (y : Nat) (L' : List (Int × Int)) (A' : Option Addr) (c' : Nat), l = .slice A' L'.length c' ∧ x = .int .i64 y ∧ (y : Int) ≤ a.K ∧ Hid (L'[k]? = some (p1, p2)) ∧ Hid (PInv a b L' k y) ∧ Hid (wi.ownsRow w.heap.size 86 2 (.slice A' L'.length c') L'.length (flat2 L')) ∧ Hid ((Value.slice A' L'.length c').ownBlock ≠ some bp) ∧
          Hid (Blk wi bp 86 #[.int .i64 p1, .int .i64 p2]) ∧
          Hid (Blk wi w.heap.size 25 #[.int .i64 a.K, .int .i64 a.S, .slice Aan a.N.length can, .slice Aaa a.A.length caa]) ∧ Hid (Blk wi (w.heap.size + 1) 25 #[.int .i64 b.K, .int .i64 b.S, .slice Abn b.N.length cbn, .slice Aba b.A.length cba]) ∧ Hid (Below w.heap.size w wi))
        (fun _ x _ _ => (a.K - intOf x).toNat)
      case atStart => exact ⟨0, L, _, _, rfl, rfl, by omega, HPK, HP, HO', HNB, HQ0, HK0', HK1', HBL'⟩
      case round =>
        clear HO' HQ0 HK0' HK1' HBL' HP HPK HNB
        obtain ⟨y, L', A', c', rfl, rfl, hyK, HPK, HP, HO, HNB, HQ, HK0, HK1, HBL⟩ := hrel
        by_cases hyl : (y : Int) < a.K
        · obtain ⟨⟨f0, f1, f2, f3⟩, _⟩ := blk4 HK0.out
          obtain ⟨⟨e0, e1, e2, e3⟩, _⟩ := blk4 HK1.out
          have g0 : wr.cell? ⟨bp, 0, none⟩ = some (.int .i64 p1) := by rw [HQ.out.cell]; rfl
          have g1 : wr.cell? ⟨bp, 1, none⟩ = some (.int .i64 p2) := by rw [HQ.out.cell]; rfl
          have hr := (HP.out.reach _ (List.mem_of_getElem? HPK.out)).lt HA.out HB.out HK.out
          obtain ⟨hr1, hr2⟩ := hr
          have hm1 := HA.out.mul_bd hr1
          have hm2 := HB.out.mul_bd hr2
          have hi1 := HA.out.idx (s := p1) (x := y) hr1 ⟨by omega, hyl⟩
          have hi2 := HB.out.idx (s := p2) (x := y) hr2 ⟨by omega, by rw [← HK.out]; exact hyl⟩
          obtain ⟨ga, oa, qa, hAa, hga, hca, hqa⟩ := (HAN.out.below HBL.out).int_ix hi1.1 hi1.2
          obtain ⟨gb, ob, qb, hAb, hgb, hcb, hqb⟩ := (HBN.out.below HBL.out).int_ix hi2.1 hi2.2
          have hqa' : a.step p1 y = qa := hqa
          have hqb' : b.step p2 y = qb := hqb
          have HQA := Lib.hid hqa'; have HQB := Lib.hid hqb'
          clear hqa hqb hqa' hqb'
          subst hAa hAb
          obtain ⟨hi1a, hi1b⟩ := hi1
          obtain ⟨hi2a, hi2b⟩ := hi2
          obtain ⟨hm1a, hm1b⟩ := hm1
          obtain ⟨hm2a, hm2b⟩ := hm2
          simp only [] at hi1a hi1b hi2a hi2b hm1a hm1b hm2a hm2b
          have hy9 : (y : Int) ≤ 512 := Int.le_trans hyK HA.out.2.1
          have w1 : IntKind.i64.wrap (p1 * a.K) = p1 * a.K := by rw [IntKind.wrap_i64]; omega
          have w2 : IntKind.i64.wrap (p2 * b.K) = p2 * b.K := by rw [IntKind.wrap_i64]; omega
          have w3 : IntKind.i64.wrap (p1 * a.K + y) = p1 * a.K + y := by rw [IntKind.wrap_i64]; omega
          have w4 : IntKind.i64.wrap (p2 * b.K + y) = p2 * b.K + y := by rw [IntKind.wrap_i64]; omega
          have hs1 : w.heap.size + 1 < wr.heap.size := HK1.out.lt
          have hs0 : w.heap.size < wr.heap.size := HK0.out.lt
          have hs2 : bp < wr.heap.size := HQ.out.lt
          have hs3 : ga < wr.heap.size := by omega
          have hs4 : gb < wr.heap.size := by omega
          go_wp2_with fail
          have nw := World.new_ne wr _ f0
          go_region_held3 (fun w' => w'.cell? ⟨w.heap.size, 0, none⟩ = some (.int .i64 a.K) ∧ w'.cell? ⟨w.heap.size, 2, none⟩ = some (.slice (some ⟨ga, oa, none⟩) a.N.length can) ∧ w'.cell? ⟨w.heap.size + 1, 0, none⟩ = some (.int .i64 b.K) ∧ w'.cell? ⟨w.heap.size + 1, 2, none⟩ = some (.slice (some ⟨gb, ob, none⟩) b.N.length cbn) ∧
              w'.cell? ⟨bp, 0, none⟩ = some (.int .i64 p1) ∧ w'.cell? ⟨bp, 1, none⟩ = some (.int .i64 p2) ∧ w'.cell? ⟨ga, oa + (p1 * a.K + y).toNat, none⟩ = some (.int .i64 qa) ∧ w'.cell? ⟨gb, ob + (p2 * b.K + y).toNat, none⟩ = some (.int .i64 qb)) (go_keep) (fail)
          have HU := Lib.hid (PInv.len HP.out HA.out HB.out HK.out)
          have hL9 : L'.length ≤ 1000000 := Nat.le_trans HU.out HSZ.out
          have HR2 : Hid (Rd2 wr wr.heap.size A' L') := Rd2.of_own HO.out (Nat.le_refl _)
          go_wp2_with fail
          refine (has_any L' qa qb A' c' _ (by omega) ?_).mono ?_
          · exact ((HR2.out.alloc (Nat.le_refl _) _).more (by simp))
          rintro e wh ⟨rfl, hbh⟩
          have hbh' : Below (wr.alloc (.cells #[.int .i64 qa, .int .i64 qb] 86)).heap.size (wr.alloc (.cells #[.int .i64 qa, .int .i64 qb] 86)) wh := ⟨hbh.os, hbh.tape, hbh.output, hbh.size, hbh.block⟩
          have HQV := Lib.hid (blk_below (Blk.new wr 86 #[.int .i64 qa, .int .i64 qb]) hbh')
          have HO2 := Lib.hid (own_below (HO.out.alloc (.cells #[.int .i64 qa, .int .i64 qb] 86)) hbh')
          have HQ2 := Lib.hid (blk_below (HQ.out.alloc (.cells #[.int .i64 qa, .int .i64 qb] 86)) hbh')
          have HK02 := Lib.hid (blk_below (HK0.out.alloc (.cells #[.int .i64 qa, .int .i64 qb] 86)) hbh')
          have HK12 := Lib.hid (blk_below (HK1.out.alloc (.cells #[.int .i64 qa, .int .i64 qb] 86)) hbh')
          have HB2 : Hid (Below w.heap.size w wh) := (HBL.out.alloc HBL.out.size (.cells #[.int .i64 qa, .int .i64 qb] 86)).trans (hbh'.mono (HBL.out.alloc HBL.out.size (.cells #[.int .i64 qa, .int .i64 qb] 86)).size)
          clear hbh'
          have HSP : Hid (stepP a b (p1, p2) y = (qa, qb)) := by show (_, _) = _; rw [HQA.out, HQB.out]
          clear hbh
          by_cases hmem : (qa, qb) ∈ L'
          · have HM := Lib.hid hmem
            have hd : decide ((qa, qb) ∈ L') = true := decide_eq_true hmem
            rw [hd]
            clear hmem hd
            go_wp2_with fail
            go_roundw
            case rel => exact ⟨y + 1, L', A', c', rfl, by go_num, by omega, HPK, HP.out.seen HPK.out (by rw [HSP.out]; exact HM.out), HO2, HNB, HQ2, HK02, HK12, HB2⟩
            case measure => simp [intOf]; omega
          · have HM := Lib.hid hmem
            have hd : decide ((qa, qb) ∈ L') = false := decide_eq_false hmem
            rw [hd]
            clear hmem hd
            have t0 : wh.cell? ⟨wr.heap.size, 0, none⟩ = some (.int .i64 qa) := by rw [HQV.out.cell]; rfl
            have t1 : wh.cell? ⟨wr.heap.size, 1, none⟩ = some (.int .i64 qb) := by rw [HQV.out.cell]; rfl
            obtain ⟨i86, hi86, hz86, hs86, hb86⟩ := info_parts Try.info86
            have HI := Lib.hid hi86; have HZ := Lib.hid hz86; have HS := Lib.hid hs86; have HBY := Lib.hid hb86
            clear hi86 hz86 hs86 hb86
            have HO3 := Lib.hid (HO2.out.alloc (.cells #[.int .i64 qa, .int .i64 qb] 86))
            go_wp2_with (at_builtin; refine wpList_append_own_at _ rfl (.tmp 59) (.tmp 61) 83 rfl w.heap.size 86 i86 (.agg #[.int .i64 0, .int .i64 0]) 2 16 Try.underlying83 HI.out HZ.out HS.out HBY.out rfl (by omega) (.slice A' L'.length c') L'.length (flat2 L') rfl HO3.out ⟨wh.heap.size, 0, none⟩ 1 1 [.int .i64 qa, .int .i64 qb] rfl rfl (World.news_of_block (cs := #[.int .i64 qa, .int .i64 qb]) (t := 86) (fr := (0, 0)) (heap_alloc_new wh _)) ?c2 ?c3 ?c4 ?c5 ?_)
            case c2 => intro u hu; rcases List.mem_cons.1 hu with rfl | hu; rfl; rw [List.mem_singleton.1 hu]; rfl
            case c3 => unfold maxLen; omega
            case c4 => omega
            case c5 => exact Nat.le_trans HB2.out.size (by simp)
            intro v1 w5 hown1 hgr1 _ hat1
            obtain ⟨A1, c1, rfl⟩ := own_form hown1
            have HT : Hid (Touch (fun j => (Value.slice A' L'.length c').ownBlock = some j) wh w5) := ((Touch.refl _ wh).alloc _).grown hgr1 fun k hk _ => hk
            have HO5 : Hid (w5.ownsRow w.heap.size 86 2 (.slice A1 (L' ++ [(qa, qb)]).length c1) (L' ++ [(qa, qb)]).length (flat2 (L' ++ [(qa, qb)]))) := by
              rw [flat2_append, List.length_append]; exact hown1
            have HB5 : Hid (Below w.heap.size w w5) := HB2.out.trans (HT.out.toBelow HB2.out.size fun k hk e => by have := (HO2.out.lt k e).1; omega)
            have HLN : Hid ((L' ++ [(qa, qb)]).length = L'.length + 1) := by show _ = _; simp
            have HQ5 := Lib.hid (HQ2.out.touch HT.out HNB.out)
            have HNB5 : Hid ((Value.slice A1 (L' ++ [(qa, qb)]).length c1).ownBlock ≠ some bp) := by
              have hlq := HQ2.out.lt
              have e1 : (Value.slice A1 (L' ++ [(qa, qb)]).length c1).ownBlock = (Value.slice A1 (L'.length + 1) c1).ownBlock := by rw [HLN.out]
              rw [Hid, e1]
              rcases hat1 with h | h
              · rw [h]; exact HNB.out
              · rw [h]; intro e; injection e with e; omega
            have HK05 := Lib.hid (HK02.out.touch HT.out (own_ne_blk HO2.out HK02.out (by decide)))
            have HK15 := Lib.hid (HK12.out.touch HT.out (own_ne_blk HO2.out HK12.out (by decide)))
            clear hown1 hgr1 hat1
            go_wp2_with fail
            go_roundw
            case rel => exact ⟨y + 1, L' ++ [(qa, qb)], A1, c1, by rw [HLN.out], by go_num, by omega, by rw [List.getElem?_append_left (List.getElem?_eq_some_iff.1 HPK.out).1]; exact HPK, by have h := HP.out.fresh HPK.out hyl (by rw [HSP.out]; exact HM.out); rw [HSP.out] at h; exact h, HO5, HNB5, HQ5, HK05, HK15, HB5⟩
            case measure => simp [intOf]; omega
        · obtain ⟨⟨f0, f1, f2, f3⟩, _⟩ := blk4 HK0.out
          have hkl : k < L'.length := (List.getElem?_eq_some_iff.1 HPK.out).1
          have hkk : k < a.A.length * b.A.length := Nat.lt_of_lt_of_le hkl (HP.out.len HA.out HB.out HK.out)
          have hk9 : k ≤ 1000000 := Nat.le_trans (Nat.le_of_lt hkk) HSZ.out
          go_wp2_with fail
          go_roundw
          case rel => exact ⟨k + 1, L', A', c', rfl, by go_num, by omega, HP.out.next (by omega), HO, HK0, HK1, HBL⟩
          case measure => simp [intOf]; omega
    · have hkl : k = L.length := by omega
      subst hkl
      go_wp2_with fail
      go_ret
      exact ⟨A, c, L, rfl, HO.out, HP.out, HBL.out⟩
end Go.Proofs.Ytmpcoclgcldclaa
