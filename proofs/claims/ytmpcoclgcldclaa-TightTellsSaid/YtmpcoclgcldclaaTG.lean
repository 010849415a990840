/- The walk of the document's Tight. -/
import Derived.Test.YtmpcoclgcldclaaTF
namespace Go.Proofs.Ytmpcoclgcldclaa
open Go.RowKit
attribute [local go_sem ↓] Go.wp_at_zero Go.wp_at_succ

/-- the last of the first k that tells the same -/
def FoundP (d : D) (L : List Int) (q : Int) (k : Nat) (a : Int) : Prop := (a = -1 ∧ ∀ j : Nat, j < k → ¬ LangEq d (gI L j) d q) ∨ ∃ j : Nat, j < k ∧ a = (j : Int) ∧ LangEq d (gI L j) d q
/-- what a numbering by the languages gives -/
def RefTightR (d : D) (w : World) (e : Ending) (w' : World) : Prop := ∃ (L N : List Int) (v : Value), OInv d (fun s t => LangEq d s d t) L N L.length 0 ∧ e = .returned v ∧ DfaR w' w.heap.size v (ordD d L N) ∧ Below w.heap.size w w'
set_option maxHeartbeats 16000000 in
set_option maxRecDepth 100000 in
theorem refTight_any (d : D) (An Aa : Option Addr) (cn ca : Nat) (w : World) (hd : DIn w d An Aa) (hok : d.Ok) (hA : d.A.length ≤ 100) :
    Calls Try.prog 59 #[dfaV d.K d.S An d.N.length cn Aa d.A.length ca] w (RefTightR d w) := by
  have HD := Lib.hid hd; have HOK := Lib.hid hok
  have hK1 : 1 ≤ d.K := hok.1
  have hK2 : d.K ≤ 512 := hok.2.1
  have hS1 : 0 ≤ d.S := hok.2.2.2.2.2.1
  have hS2 : d.S < d.A.length := hok.2.2.2.2.2.2.1
  have hA1 : 1 ≤ d.A.length := hok.2.2.1
  have c96 := fun (W : World) (hb : Below w.heap.size w W) => unlike_any d An Aa cn ca W (hd.up hb) hok hA
  obtain ⟨m, hm⟩ : ∃ m, m = d.A.length * d.A.length := ⟨_, rfl⟩
  have HM := Lib.hid hm
  rw [← hm] at c96
  have hmb : m ≤ 10000 := by rw [hm]; exact Nat.le_trans (Nat.mul_le_mul hA hA) (by omega)
  have C96 := Lib.hid c96
  obtain ⟨i3, hi, hz, hs, hb⟩ := info_parts Try.info3
  have HI3 := Lib.hid hi; have HZ3 := Lib.hid hz; have HS3 := Lib.hid hs; have HB3 := Lib.hid hb
  clear hi hz hs hb
  obtain ⟨i4, hi, hz, hs, hb⟩ := info_parts Try.info4
  have HI4 := Lib.hid hi; have HZ4 := Lib.hid hz; have HS4 := Lib.hid hs; have HB4 := Lib.hid hb
  clear hi hz hs hb c96 hm hd hok
  have HW := Lib.hid (bel_alloc (bel_new w (.cells #[.int .i64 d.K, .int .i64 d.S, .slice An d.N.length cn, .slice Aa d.A.length ca] 25)) (.cells #[.int .i64 0, .int .i64 0, .slice none 0 0, .slice none 0 0] 25))
  have B1 := Lib.hid ((Blk.new w 25 #[.int .i64 d.K, .int .i64 d.S, .slice An d.N.length cn, .slice Aa d.A.length ca]).alloc (.cells #[.int .i64 0, .int .i64 0, .slice none 0 0, .slice none 0 0] 25))
  have B2 : Hid (Blk ((w.alloc (.cells #[.int .i64 d.K, .int .i64 d.S, .slice An d.N.length cn, .slice Aa d.A.length ca] 25)).alloc (.cells #[.int .i64 0, .int .i64 0, .slice none 0 0, .slice none 0 0] 25)) (w.heap.size + 1) 25 #[.int .i64 0, .int .i64 0, .slice none 0 0, .slice none 0 0]) := by
    have h := Blk.new (w.alloc (.cells #[.int .i64 d.K, .int .i64 d.S, .slice An d.N.length cn, .slice Aa d.A.length ca] 25)) 25 #[.int .i64 0, .int .i64 0, .slice none 0 0, .slice none 0 0]
    simp only [size_alloc_one] at h
    exact h
  go_enter Try.func59, Try.ntmps59
  go_wp2_with fail
  refine (C96.out _ HW.out).mono ?_
  rintro e w3 ⟨AU, cU, U, rfl, hUl, hU, hUr, hb3⟩
  replace B1 := Lib.hid (blk_below B1.out hb3)
  replace B2 := Lib.hid (blk_below B2.out hb3)
  have HUR := Lib.hid (hUr.mono HW.out.size)
  replace HW := Lib.hid (bel_step HW.out hb3)
  have HU := Lib.hid hU; have HUL := Lib.hid hUl
  clear hb3 hU hUr hUl
  obtain ⟨⟨a0, a1, a2, a3⟩, _⟩ := blk4 B1.out
  have hlt3 : w.heap.size + 1 < w3.heap.size := B2.out.lt
  have HO0 : Hid (RTW w (((w3.alloc (.cells #[.int .i64 d.S] 3)).alloc (.cells #[] 3)).alloc (.cells #[] 4)) d An cn Aa ca AU m cU U (some ⟨w3.heap.size + 1, 0, none⟩) 0 [] (some ⟨w3.heap.size + 1 + 1, 0, none⟩) 0 [] (some ⟨w3.heap.size, 0, none⟩) 1 [d.S]) := by
    have h1 := World.ownsRow_lit (base := w.heap.size) (e := 3) (size := 1) w3 #[.int .i64 d.S] 1 (by omega) (by decide) rfl
    have h2 := World.ownsRow_lit (base := w.heap.size) (e := 3) (size := 1) (w3.alloc (.cells #[.int .i64 d.S] 3)) #[] 0 (by simp; omega) (by decide) rfl
    have h3 := World.ownsRow_lit (base := w.heap.size) (e := 4) (size := 1) ((w3.alloc (.cells #[.int .i64 d.S] 3)).alloc (.cells #[] 3)) #[] 0 (by simp; omega) (by decide) rfl
    simp only [size_alloc_one] at h2 h3
    refine ⟨((B1.out.alloc _).alloc _).alloc _, ((B2.out.alloc _).alloc _).alloc _, ((HUR.out.alloc _).alloc _).alloc _, h2.alloc _, h3, (h1.alloc _).alloc _, ?_, ?_, bel_alloc (bel_alloc (bel_alloc HW.out _) _) _⟩
    · intro k hk hk'
      simp [Value.ownBlock] at hk hk'
      omega
    · intro k hk hk'
      have := (HUR.out.lt k hk').2
      simp [Value.ownBlock] at hk
      omega
  have HI0 := Lib.hid (OInv.init (r := fun s t : Int => LangEq d s d t) HOK.out)
  clear B1 B2 HUR
  go_wp2_with fail
  clear a0 a1 a2 a3 hlt3
  go_loopg [5, 6, 7, 8, 9, 10, 11, 12, 13] d.A.length (fun gk td nx ac iI _ _ _ _ _ wr => ∃ (L N : List Int) (A : List Bool) (AN : Option Addr) (cN : Nat) (AA : Option Addr) (cA : Nat) (TA : Option Addr) (tc : Nat), td = .slice TA L.length tc ∧ nx = .slice AN N.length cN ∧ ac = .slice AA A.length cA ∧ iI = .int .i64 ((A.length : Nat) : Int) ∧ A.length ≤ L.length ∧ gk = d.A.length - A.length ∧
      Hid (OInv d (fun s t : Int => LangEq d s d t) L N A.length 0) ∧ Hid (A = (L.take A.length).map d.acc) ∧ Hid (RTW w wr d An cn Aa ca AU m cU U AN cN N AA cA A TA tc L))
  case atStart => exact ⟨[d.S], [], [], _, 0, _, 0, _, _, rfl, rfl, rfl, rfl, by simp, by simp, HI0, rfl, HO0⟩
  case round =>
    clear HO0 HI0
    obtain ⟨L, N, A, AN, cN, AA, cA, TA, tc, rfl, rfl, rfl, rfl, hAL, rfl, HI, HAC, HO⟩ := hrel
    have hLA : L.length ≤ d.A.length := HI.out.le (fun _ _ _ _ => rfl)
    have hbx := HO.out.box
    obtain ⟨⟨a0, a1, a2, a3⟩, _⟩ := blk4 hbx
    have hltb := hbx.lt
    clear hbx
    by_cases hlt : A.length < L.length
    · obtain ⟨gt, ot, s, hTA, hgt, hct, hs⟩ := (Rd.of_own HO.out.todo (Nat.le_refl _)).int_at hlt
      have hsr := HI.out.rng s (List.mem_of_getElem? hs)
      have HSG : Hid (gI L A.length = s) := by show _ = _; unfold gI; rw [List.getD_eq_getElem?_getD, hs]; rfl
      obtain ⟨hs1, hs2⟩ := hsr
      obtain ⟨ga, oa, va, rfl, hga, hca, hva⟩ := (HD.out.ra.below HO.out.bel).bool_ix hs1 hs2
      have HVA : Hid (d.acc s = va) := hva
      have hlga : ga < wr.heap.size := Nat.lt_of_lt_of_le hga HO.out.bel.size
      have HSS := Lib.hid hs
      subst hTA
      have HL1 : Hid (A.length + 1 ≤ maxLen) := by show _ ≤ _; unfold maxLen; omega
      have HL2 : Hid ((A.length + 1) * 1 ≤ 140737488355328) := by show _ ≤ _; omega
      have HONE : Hid (∀ u ∈ [Value.bool va], u.oneCell' = true) := by intro u hu; rw [List.mem_singleton.1 hu]; rfl
      clear hva hs
      go_upto_region 9 with fail
      go_cut [7] (fun v7 wx => ∃ (AA' : Option Addr) (cA' : Nat), v7 = .slice AA' (A ++ [va]).length cA' ∧ Hid (RTW w wx d An cn (some ⟨ga, oa, none⟩) ca AU m cU U AN cN N AA' cA' (A ++ [va]) (some ⟨gt, ot, none⟩) tc L))
      case first =>
        go_region_law
          (refine step_append_lies _ (by rfl) _ _ _ (by rfl) w.heap.size 4 i4 _ 1 1 Try.underlying23 HI4.out HZ4.out HS4.out HB4.out rfl (by omega) (.slice AA A.length cA) A.length (A.map Value.bool) (by rfl) (HO.out.acc.alloc (.cells #[.bool va] 4)).drew ⟨wr.heap.size, 0, none⟩ 1 1 [.bool va] (by rfl) (by simp) (World.news_of_block (cs := #[.bool va]) (t := 4) (fr := (0, 0)) (heap_alloc_new wr _)) HONE.out (by omega) HL1.out HL2.out (by have := HO.out.bel.size; simp; omega) _ rfl ?_
           intro gg cap w5 hown5 hgrow5 hat5 hlt5
           have HOX := Lib.hid ((HO.out.alloc (.cells #[.bool va] 4)).drew.accGrow (b := va) hown5 hgrow5 (fun k hk => by
             have : gg = k := by simpa [Value.ownBlock] using hk
             subst this
             rcases hat5 with h | h
             · exact .inl h
             · right; rw [h]; exact Nat.le_refl _))
           clear hown5 hgrow5 hat5)
        all_goals
          go_wp2_with fail
          go_meet
          case rel => exact ⟨_, _, by rw [List.length_append]; rfl, HOX⟩
      case rest =>
        obtain ⟨AA', cA', rfl, HO1⟩ := hcut
        obtain ⟨A1, hA1⟩ : ∃ A1, A1 = A ++ [va] := ⟨_, rfl⟩
        rw [← hA1] at HO1
        rw [← hA1]
        have HA1l : Hid (A1.length = A.length + 1) := by show _ = _; rw [hA1]; simp
        have HAC1 : Hid (A1 = (L.take A1.length).map d.acc) := by
          show _ = _
          rw [HA1l.out, take_snoc HSS.out, List.map_append, ← HAC.out, hA1]
          simp [HVA.out]
        clear a0 a1 a2 a3 hltb hlga hct hgt hca HAC hA1 HONE HL1 HL2 HO
        go_wp2_with fail
        go_loopw [5, 6, 9, 10, 11, 12, 13] (fun td nx xI _ _ _ _ wi => ∃ (y : Nat) (L' N' : List Int) (AN2 : Option Addr) (cN2 : Nat) (TA' : Option Addr) (tc' : Nat), td = .slice TA' L'.length tc' ∧ nx = .slice AN2 N'.length cN2 ∧ xI = .int .i64 y ∧ (y : Int) ≤ d.K ∧ A.length < L'.length ∧
            Hid (gI L' A.length = s) ∧ Hid (OInv d (fun s t : Int => LangEq d s d t) L' N' A.length y) ∧ Hid (A1 = (L'.take A1.length).map d.acc) ∧ Hid (RTW w wi d An cn (some ⟨ga, oa, none⟩) ca AU m cU U AN2 cN2 N' AA' cA' A1 TA' tc' L')) (fun _ _ xI _ _ _ _ _ => (d.K - intOf xI).toNat)
        case atStart => exact ⟨0, L, N, _, _, _, _, rfl, rfl, rfl, by omega, hlt, HSG, HI, HAC1, HO1⟩
        case round =>
          clear HSG HI HAC1 HO1
          obtain ⟨y, L', N', AN2, cN2, TA', tc', rfl, rfl, rfl, hyK, hlt', HSG, HI, HAC, HO⟩ := hrel
          have hLA' : L'.length ≤ d.A.length := HI.out.le (fun _ _ _ _ => rfl)
          have hbx := HO.out.box
          obtain ⟨⟨a0, a1, a2, a3⟩, _⟩ := blk4 hbx
          have hltb := hbx.lt
          clear hbx
          by_cases hyl : (y : Int) < d.K
          · have hmb1 := HOK.out.mul_bd (s := s) ⟨hs1, hs2⟩
            have hix := HOK.out.idx (s := s) (x := (y : Int)) ⟨hs1, hs2⟩ ⟨by omega, hyl⟩
            obtain ⟨gn, on, q, hAn, hgn, hcq, hq⟩ := (HD.out.rn.below HO.out.bel).int_ix hix.1 hix.2
            have hqr := HOK.out.step_lt (s := s) (x := (y : Int)) ⟨hs1, hs2⟩ ⟨by omega, hyl⟩
            have hst : d.step s y = q := hq
            rw [hst] at hqr
            obtain ⟨gt2, ot2, s2, hTA2, hgt2, hct2, hs2'⟩ := (Rd.of_own HO.out.todo (Nat.le_refl _)).int_at hlt'
            have hss : s2 = s := by
              have h := HSG.out
              unfold gI at h
              rw [List.getD_eq_getElem?_getD, hs2'] at h
              exact h
            subst hss
            obtain ⟨q0, q1⟩ := hqr
            obtain ⟨hm1, hm2⟩ := hmb1
            obtain ⟨hi1, hi2⟩ := hix
            have v1 : IntKind.i64.wrap (s2 * d.K) = s2 * d.K := by rw [IntKind.wrap_i64]; omega
            have v2 : IntKind.i64.wrap (s2 * d.K + y) = s2 * d.K + y := by rw [IntKind.wrap_i64]; omega
            have hlgn : gn < wr.heap.size := Nat.lt_of_lt_of_le hgn HO.out.bel.size
            have HST := Lib.hid hst
            have hNl : N'.length ≤ 40000000 := by
              have h1 := HI.out.len
              have h2 : A.length * d.K.toNat ≤ 65536 * 512 := Nat.mul_le_mul (by omega) (by omega)
              omega
            subst hAn hTA2
            clear hq hst hs2'
            go_wp2_with fail
            go_quiet (fail)
            generalize hW5 : wr.drewN nq = W5
            have HO5 : Hid (RTW w W5 d (some ⟨gn, on, none⟩) cn (some ⟨ga, oa, none⟩) ca AU m cU U AN2 cN2 N' AA' cA' A1 (some ⟨gt2, ot2, none⟩) tc' L') := by rw [← hW5]; exact HO.out.drewN nq
            clear hW5 HO a0 a1 a2 a3 hltb hcq hct2 hgt2 hlgn
            have HF0 : Hid (FoundP d L' q 0 (-1)) := .inl ⟨rfl, fun j h => by omega⟩
            go_wp2_with fail
            go_loop [11, 12, 13, 62] (fun aI _ _ kI => ∃ (k : Nat) (a : Int), kI = .int .i64 k ∧ aI = .int .i64 a ∧ k ≤ L'.length ∧ Hid (FoundP d L' q k a)) (fun _ _ _ kI => L'.length - (intOf kI).toNat)
            case atStart => exact ⟨0, -1, rfl, rfl, Nat.zero_le _, HF0⟩
            case round =>
              clear HF0
              obtain ⟨k, a, rfl, rfl, hk, HF⟩ := hrel
              by_cases hkl : k < L'.length
              · obtain ⟨gt3, ot3, z, hTA3, hgt3, hct3, hz⟩ := (Rd.of_own HO5.out.todo (Nat.le_refl _)).int_at hkl
                obtain ⟨rfl, rfl⟩ : gt2 = gt3 ∧ ot2 = ot3 := by simpa using hTA3
                have hzr := HI.out.rng z (List.mem_of_getElem? hz)
                have HZG : Hid (gI L' k = z) := by show _ = _; unfold gI; rw [List.getD_eq_getElem?_getD, hz]; rfl
                have hpqb := pq_bd hA hzr ⟨q0, q1⟩
                have hpql := pq_lt hzr ⟨q0, q1⟩
                have hpix := pq_ix (n := d.A.length) hzr.1 q0
                have htab := HU.out z q hzr ⟨q0, q1⟩
                obtain ⟨gu, cu, hAU, _, hgu⟩ := HO5.out.tab.form (by rw [HM.out]; omega)
                obtain rfl : AU = some ⟨gu, 0, none⟩ := by injection hAU
                have hcell := (bool_cell HO5.out.tab (by first | (rw [HUL.out, HM.out]) | (rw [HUL.out]; exact HM.out.symm) | (rw [HUL.out])) (p := pq d.A.length z q) (by rw [HM.out]; exact hpql)).1
                obtain ⟨hb1, hb2, hb3, hb4⟩ := hpqb
                have v5 : IntKind.i64.wrap (z * (d.A.length : Int)) = z * (d.A.length : Int) := by rw [IntKind.wrap_i64]; omega
                have v6 : IntKind.i64.wrap (z * (d.A.length : Int) + q) = z * (d.A.length : Int) + q := by rw [IntKind.wrap_i64]; omega
                have hpmi : z * (d.A.length : Int) + q < (m : Int) := by
                  have : ((z * (d.A.length : Int) + q).toNat : Int) = z * (d.A.length : Int) + q := Int.toNat_of_nonneg hb3
                  rw [← this, hpix, HM.out]
                  omega
                obtain ⟨u, hu⟩ : ∃ u, u = uAt U (pq d.A.length z q) := ⟨_, rfl⟩
                rw [← hu] at hcell htab
                have HTAB := Lib.hid htab
                clear hz hzr hpql htab hu hAU
                cases u
                · have HF2 : Hid (FoundP d L' q (k + 1) ((k : Nat) : Int)) := .inr ⟨k, by omega, rfl, by
                    rw [HZG.out]
                    have h := HTAB.out
                    exact Classical.byContradiction fun hn => by have := h.2 hn; cases this⟩
                  go_wp2_with fail
                  go_round
                  case rel => exact ⟨k + 1, k, by go_num, rfl, by omega, HF2⟩
                  case measure => simp [intOf]; omega
                · have HF2 : Hid (FoundP d L' q (k + 1) a) := by
                    have hne : ¬ LangEq d z d q := HTAB.out.1 rfl
                    rcases HF.out with ⟨h1, h2⟩ | ⟨j, h1, h2, h3⟩
                    · refine .inl ⟨h1, fun j hj => ?_⟩
                      by_cases e : j = k
                      · subst e; rw [HZG.out]; exact hne
                      · exact h2 j (by omega)
                    · exact .inr ⟨j, by omega, h2, h3⟩
                  go_wp2_with fail
                  go_round
                  case rel => exact ⟨k + 1, a, by go_num, rfl, by omega, HF2⟩
                  case measure => simp [intOf]; omega
              · obtain rfl : k = L'.length := by omega
                rcases HF.out with ⟨h1, h2⟩ | ⟨j, h1, h2, h3⟩
                · subst h1
                  have HIS : Hid (OInv d (fun s t : Int => LangEq d s d t) (L' ++ [q]) (N' ++ [((L'.length : Nat) : Int)]) A.length (y + 1)) := by
                    have h := HI.out.fresh HOK.out hlt' (by omega) (fun _ _ _ _ => rfl) (fun _ _ h => h.symm rfl) (fun j hj => by
                      show ¬ LangEq d _ d _
                      rw [HSG.out, HST.out]
                      exact h2 j hj)
                    rw [HSG.out, HST.out] at h
                    exact h
                  have HLN : Hid ((L' ++ [q]).length = L'.length + 1) := by show _ = _; simp
                  have HNL : Hid ((N' ++ [((L'.length : Nat) : Int)]).length = N'.length + 1) := by show _ = _; simp
                  clear h2 HF
                  have HOA := Lib.hid (HO5.out.alloc (.cells #[.int .i64 q] 3))
                  have HNX := Lib.hid HOA.out.todo
                  go_wp2_with (at_builtin; go_must (refine wpList_append_own_at _ rfl (.tmp 82) (.tmp 84) 22 rfl w.heap.size 3 i3 (.int .i64 0) 1 8 Try.underlying22 HI3.out HZ3.out HS3.out HB3.out rfl (by omega) (.slice (some ⟨gt2, ot2, none⟩) L'.length tc') L'.length (L'.map (Value.int .i64)) rfl HNX.out ⟨W5.heap.size, 0, none⟩ 1 1 [.int .i64 q] rfl rfl (World.news_of_block (cs := #[.int .i64 q]) (t := 3) (fr := (0, 0)) (heap_alloc_new W5 _)) ?e2 ?e3 ?e4 ?e5 ?_))
                  case e2 => first | rfl | (intro u hu; rw [List.mem_singleton.1 hu]; rfl)
                  case e3 => unfold maxLen; omega
                  case e4 => omega
                  case e5 => have := HO5.out.bel.size; simp; omega
                  intro ve we howne hgre _ hate
                  obtain ⟨Ae, ce, rfl⟩ := own_form howne
                  have HOe := Lib.hid (HOA.out.todoGrow (q := q) howne hgre (fun k hk => by
                    rcases hate with h | h
                    · exact .inl (h ▸ hk)
                    · right; rw [h] at hk; injection hk with hk; simp; omega))
                  clear howne hgre hate HOA HNX
                  have HOA := Lib.hid (HOe.out.alloc (.cells #[.int .i64 ((L'.length : Nat) : Int)] 3))
                  have HNX := Lib.hid HOA.out.next
                  go_wp2_with (at_builtin; go_must (refine wpList_append_own_at _ rfl (.tmp 86) (.tmp 88) 22 rfl w.heap.size 3 i3 (.int .i64 0) 1 8 Try.underlying22 HI3.out HZ3.out HS3.out HB3.out rfl (by omega) (.slice AN2 N'.length cN2) N'.length (N'.map (Value.int .i64)) rfl HNX.out ⟨we.heap.size, 0, none⟩ 1 1 [.int .i64 ((L'.length : Nat) : Int)] rfl rfl (World.news_of_block (cs := #[.int .i64 ((L'.length : Nat) : Int)]) (t := 3) (fr := (0, 0)) (heap_alloc_new we _)) ?g2 ?g3 ?g4 ?g5 ?_))
                  case g2 => first | rfl | (intro u hu; rw [List.mem_singleton.1 hu]; rfl)
                  case g3 => unfold maxLen; omega
                  case g4 => omega
                  case g5 => have := HOe.out.bel.size; simp; omega
                  intro vg wg howng hgrg _ hatg
                  obtain ⟨Ag, cg, rfl⟩ := own_form howng
                  have HOg := Lib.hid (HOA.out.nextGrow (q := ((L'.length : Nat) : Int)) howng hgrg (fun k hk => by
                    rcases hatg with h | h
                    · exact .inl (h ▸ hk)
                    · right; rw [h] at hk; injection hk with hk; simp; omega))
                  clear howng hgrg hatg HOA HNX
                  go_wp2_with fail
                  go_roundw
                  case rel =>
                    refine ⟨y + 1, L' ++ [q], N' ++ [((L'.length : Nat) : Int)], _, _, _, _, by rw [HLN.out], by rw [HNL.out], by go_num, by omega, by rw [HLN.out]; omega, ?_, HIS, ?_, HOg⟩
                    · show gI (L' ++ [q]) A.length = s2
                      rw [gI_left hlt']; exact HSG.out
                    · show A1 = _
                      rw [List.take_append_of_le_length (by rw [HA1l.out]; omega)]
                      exact HAC.out
                  case measure => simp [intOf]; omega
                · subst h2
                  have HIS : Hid (OInv d (fun s t : Int => LangEq d s d t) L' (N' ++ [(j : Int)]) A.length (y + 1)) :=
                    HI.out.seen (by omega) h1 (by show LangEq d _ d _; rw [HSG.out, HST.out]; exact h3)
                  have HNL : Hid ((N' ++ [(j : Int)]).length = N'.length + 1) := by show _ = _; simp
                  clear h3 HF
                  have HOA := Lib.hid (HO5.out.alloc (.cells #[.int .i64 j] 3))
                  have HNX := Lib.hid HOA.out.next
                  go_wp2_with (at_builtin; go_must (refine wpList_append_own_at _ rfl (.tmp 86) (.tmp 88) 22 rfl w.heap.size 3 i3 (.int .i64 0) 1 8 Try.underlying22 HI3.out HZ3.out HS3.out HB3.out rfl (by omega) (.slice AN2 N'.length cN2) N'.length (N'.map (Value.int .i64)) rfl HNX.out ⟨W5.heap.size, 0, none⟩ 1 1 [.int .i64 j] rfl rfl (World.news_of_block (cs := #[.int .i64 j]) (t := 3) (fr := (0, 0)) (heap_alloc_new W5 _)) ?g2 ?g3 ?g4 ?g5 ?_))
                  case g2 => first | rfl | (intro u hu; rw [List.mem_singleton.1 hu]; rfl)
                  case g3 => unfold maxLen; omega
                  case g4 => omega
                  case g5 => have := HO5.out.bel.size; simp; omega
                  intro vg wg howng hgrg _ hatg
                  obtain ⟨Ag, cg, rfl⟩ := own_form howng
                  have HOg := Lib.hid (HOA.out.nextGrow (q := (j : Int)) howng hgrg (fun k hk => by
                    rcases hatg with h | h
                    · exact .inl (h ▸ hk)
                    · right; rw [h] at hk; injection hk with hk; simp; omega))
                  clear howng hgrg hatg HOA HNX
                  go_wp2_with fail
                  go_roundw
                  case rel => exact ⟨y + 1, L', N' ++ [(j : Int)], _, _, _, _, rfl, by rw [HNL.out], by go_num, by omega, hlt', HSG, HIS, HAC, HOg⟩
                  case measure => simp [intOf]; omega
          · have hyk : y = d.K.toNat := by omega
            have HIN : Hid (OInv d (fun s t : Int => LangEq d s d t) L' N' A1.length 0) := by rw [HA1l.out]; exact HI.out.next (by omega) (by omega)
            have hgk : d.A.length - A1.length < d.A.length - A.length := by rw [HA1l.out]; omega
            have hle : A1.length ≤ L'.length := by rw [HA1l.out]; omega
            clear hyk
            go_wp2_with fail
            go_roundg (d.A.length - A1.length)
            case measure => exact hgk
            case rel => exact ⟨L', N', A1, _, _, _, _, _, _, rfl, rfl, rfl, by rw [HA1l.out]; go_num, hle, rfl, HIN, HAC, HO⟩
    · have hjl : A.length = L.length := by omega
      have HJL := Lib.hid hjl; clear hjl
      have hbr := HO.out.res
      obtain ⟨⟨r0, r1, r2, r3⟩, y0, y1, y2, y3⟩ := blk4 hbr
      have hlr := hbr.lt
      clear hbr
      go_wp2_with fail
      refine bodyPost_ret (v := .agg #[.int .i64 d.K, .int .i64 0, .slice AN N.length cN, .slice AA A.length cA]) ?_ rfl ?_
      · simp [results, Try.results59, go_sem, r0, r1, r2, r3]
      · have hA2 : A = L.map d.acc := by
          have h := HAC.out
          rw [HJL.out, List.take_length] at h
          exact h
        have hin := HI.out
        rw [HJL.out] at hin
        refine ⟨L, N, _, hin, rfl, ⟨AN, cN, AA, cA, ?_, ?_, ?_⟩, HO.out.bel.trans ((touch4 wr (w.heap.size + 1) _ _ _ _).toBelow HO.out.bel.size (fun k hk e => by omega))⟩
        · show _ = dfaV d.K 0 AN N.length cN AA (L.map d.acc).length cA
          rw [← hA2]
        · exact own_touch HO.out.next (touch4 wr (w.heap.size + 1) _ _ _ _) (fun k hk e => own_ne_blk HO.out.next HO.out.res (by decide) (by rw [← e]; exact hk))
        · show World.ownsRow _ _ _ _ (.slice AA (L.map d.acc).length cA) (L.map d.acc).length ((L.map d.acc).map Value.bool)
          rw [← hA2]
          exact own_touch HO.out.acc (touch4 wr (w.heap.size + 1) _ _ _ _) (fun k hk e => own_ne_blk HO.out.acc HO.out.res (by decide) (by rw [← e]; exact hk))
end Go.Proofs.Ytmpcoclgcldclaa
