/- The walk of tight's ordered. -/
import Derived.Test.YtmpcoclgcldclaaTA
import Derived.Deep.LoopGhost
namespace Go.Proofs.Ytmpcoclgcldclaa
open Go.RowKit
attribute [local go_sem ↓] Go.wp_at_zero Go.wp_at_succ

theorem relK (cls : List Int) : ∀ s t, (fun s t : Int => gI cls s.toNat = gI cls t.toNat) s t → (fun s t : Int => gI cls s.toNat = gI cls t.toNat) t s := fun _ _ h => h.symm
/-- what ordered gives -/
def OrdR (d : D) (cls : List Int) (w : World) (e : Ending) (w' : World) : Prop := ∃ (L N : List Int) (v : Value), OInv d (fun s t => gI cls s.toNat = gI cls t.toNat) L N L.length 0 ∧ e = .returned v ∧ DfaR w' w.heap.size v (ordD d L N) ∧ Below w.heap.size w w'
set_option maxHeartbeats 16000000 in
set_option maxRecDepth 100000 in
theorem ordered_any (d : D) (cls : List Int) (An Aa Ac : Option Addr) (cn ca cc : Nat) (w : World) (hd : DIn w d An Aa) (hc : WIn w cls Ac) (hok : d.Ok) (hcl : cls.length = d.A.length) :
    Calls Try.prog 93 #[dfaV d.K d.S An d.N.length cn Aa d.A.length ca, .slice Ac cls.length cc] w (OrdR d cls w) := by
  have HD := Lib.hid hd; have HC := Lib.hid hc; have HOK := Lib.hid hok; have HCL := Lib.hid hcl
  have hA2 : d.A.length ≤ 65536 := hok.2.2.2.1
  have hK1 : 1 ≤ d.K := hok.1
  have hK2 : d.K ≤ 512 := hok.2.1
  have hS1 : 0 ≤ d.S := hok.2.2.2.2.2.1
  have hS2 : d.S < d.A.length := hok.2.2.2.2.2.2.1
  obtain ⟨gc, oc, k0, rfl, hgc, hck, hkv⟩ := hc.r.int_ix hS1 (by rw [hcl]; exact hS2)
  have HK0 : Hid (gI cls d.S.toNat = k0) := hkv
  have hScl : d.S < cls.length := by rw [hcl]; exact hS2
  have hgcl : gc < w.heap.size := hgc
  clear hd hc hok hcl hkv
  have hmm := @run_makeMap Try.prog
  have HW0 := Lib.hid (bel_alloc (bel_alloc (bel_alloc (bel_new w (.cells #[.int .i64 d.K, .int .i64 d.S, .slice An d.N.length cn, .slice Aa d.A.length ca] 25)) (.cells #[.int .i64 0, .int .i64 0, .slice none 0 0, .slice none 0 0] 25)) (.cells #[.int .i64 d.K, .int .i64 0, .slice none 0 0, .slice none 0 0] 25)) (.map #[] 0))
  have hck4 := (HW0.out.cell (p := ⟨gc, oc + d.S.toNat, none⟩) hgc).trans hck
  have HM0 : Hid (MapF ((((w.alloc (.cells #[.int .i64 d.K, .int .i64 d.S, .slice An d.N.length cn, .slice Aa d.A.length ca] 25)).alloc (.cells #[.int .i64 0, .int .i64 0, .slice none 0 0, .slice none 0 0] 25)).alloc (.cells #[.int .i64 d.K, .int .i64 0, .slice none 0 0, .slice none 0 0] 25)).alloc (.map #[] 0)) (w.heap.size + 1 + 1 + 1) 0 (Value.int .i64) (fun _ => none)) := by
    have h := MapF.made (((w.alloc (.cells #[.int .i64 d.K, .int .i64 d.S, .slice An d.N.length cn, .slice Aa d.A.length ca] 25)).alloc (.cells #[.int .i64 0, .int .i64 0, .slice none 0 0, .slice none 0 0] 25)).alloc (.cells #[.int .i64 d.K, .int .i64 0, .slice none 0 0, .slice none 0 0] 25)) (Value.int .i64)
    simp only [size_alloc_one] at h
    exact h
  have B0 := Lib.hid (((Blk.new w 25 #[.int .i64 d.K, .int .i64 d.S, .slice An d.N.length cn, .slice Aa d.A.length ca]).alloc (.cells #[.int .i64 0, .int .i64 0, .slice none 0 0, .slice none 0 0] 25)).alloc (.cells #[.int .i64 d.K, .int .i64 0, .slice none 0 0, .slice none 0 0] 25) |>.alloc (.map #[] 0))
  have B1 : Hid (Blk ((((w.alloc (.cells #[.int .i64 d.K, .int .i64 d.S, .slice An d.N.length cn, .slice Aa d.A.length ca] 25)).alloc (.cells #[.int .i64 0, .int .i64 0, .slice none 0 0, .slice none 0 0] 25)).alloc (.cells #[.int .i64 d.K, .int .i64 0, .slice none 0 0, .slice none 0 0] 25)).alloc (.map #[] 0)) (w.heap.size + 1) 25 #[.int .i64 0, .int .i64 0, .slice none 0 0, .slice none 0 0]) := by
    have h := ((Blk.new (w.alloc (.cells #[.int .i64 d.K, .int .i64 d.S, .slice An d.N.length cn, .slice Aa d.A.length ca] 25)) 25 #[.int .i64 0, .int .i64 0, .slice none 0 0, .slice none 0 0]).alloc (.cells #[.int .i64 d.K, .int .i64 0, .slice none 0 0, .slice none 0 0] 25)).alloc (.map #[] 0)
    simp only [size_alloc_one] at h
    exact h
  have B2 : Hid (Blk ((((w.alloc (.cells #[.int .i64 d.K, .int .i64 d.S, .slice An d.N.length cn, .slice Aa d.A.length ca] 25)).alloc (.cells #[.int .i64 0, .int .i64 0, .slice none 0 0, .slice none 0 0] 25)).alloc (.cells #[.int .i64 d.K, .int .i64 0, .slice none 0 0, .slice none 0 0] 25)).alloc (.map #[] 0)) (w.heap.size + 2) 25 #[.int .i64 d.K, .int .i64 0, .slice none 0 0, .slice none 0 0]) := by
    have h := (Blk.new ((w.alloc (.cells #[.int .i64 d.K, .int .i64 d.S, .slice An d.N.length cn, .slice Aa d.A.length ca] 25)).alloc (.cells #[.int .i64 0, .int .i64 0, .slice none 0 0, .slice none 0 0] 25)) 25 #[.int .i64 d.K, .int .i64 0, .slice none 0 0, .slice none 0 0]).alloc (.map #[] 0)
    simp only [size_alloc_one] at h
    exact h
  clear hck hgc
  go_enter Try.func93, Try.ntmps93
  go_wp2_with (refine wpList_insert _ rfl (.tmp 16) (.tmp 21) (.const (.int .i64 0)) 128 rfl keys3 Try.underlying128 (w.heap.size + 1 + 1 + 1) 0 (fun _ => none) rfl HM0.out k0 (.int .i64 0) rfl rfl ?_)
  intro w3 hm3 ht3
  have hg3 : w.heap.size + 4 ≤ w3.heap.size := by have := ht3.size; simp at this; omega
  have HO1 : Hid (OrdW w (w3.alloc (.cells #[.int .i64 d.S] 3)) d An cn Aa ca (w.heap.size + 1 + 1 + 1) none 0 [] none 0 [] (some ⟨w3.heap.size, 0, none⟩) 1 [d.S] 1 (keyF cls [d.S])) := by
    refine ⟨(B0.out.touch ht3 (by omega)).alloc _, (B1.out.touch ht3 (by omega)).alloc _, (B2.out.touch ht3 (by omega)).alloc _, World.ownsRow_nil _ _ _ _, World.ownsRow_nil _ _ _ _, ?_, (fun k hk => by cases hk), ?_, (by omega), ?_⟩
    · exact World.ownsRow_lit (base := w.heap.size) (e := 3) (size := 1) w3 #[.int .i64 d.S] 1 (by omega) (by decide) rfl
    · have h := (hm3.alloc (.cells #[.int .i64 d.S] 3)).ext (f' := keyF cls [d.S]) (fun c => by rw [← keyF_one, HK0.out])
      exact h
    · exact (HW0.out.trans (ht3.toBelow HW0.out.size (fun k hk e => by omega))).alloc (by omega) _
  have HI1 := Lib.hid (OInv.init (r := fun s t : Int => gI cls s.toNat = gI cls t.toNat) HOK.out)
  have b0 : w3.cell? ⟨w.heap.size, 1, none⟩ = some (.int .i64 d.S) := by rw [(B0.out.touch ht3 (by omega)).cell]; rfl
  clear hm3 ht3 HM0 B0 B1 B2 HW0 hck4 hmm
  go_wp2_with fail
  clear b0
  go_loopg [7, 8, 9, 10, 11, 12] d.A.length (fun gk td _ _ _ _ _ wr => ∃ (L N : List Int) (A : List Bool) (AN : Option Addr) (cN : Nat) (AA : Option Addr) (cA : Nat) (TA : Option Addr) (tc : Nat), td = .slice TA L.length tc ∧ A.length ≤ L.length ∧ gk = d.A.length - A.length ∧
      Hid (OInv d (fun s t : Int => gI cls s.toNat = gI cls t.toNat) L N A.length 0) ∧ Hid (A = (L.take A.length).map d.acc) ∧ Hid (OrdW w wr d An cn Aa ca (w.heap.size + 1 + 1 + 1) AN cN N AA cA A TA tc L L.length (keyF cls L)))
  case atStart => exact ⟨[d.S], [], [], none, 0, none, 0, _, _, rfl, by simp, by simp, HI1, rfl, HO1⟩
  case round =>
    clear HO1 HI1
    obtain ⟨L, N, A, AN, cN, AA, cA, TA, tc, rfl, hAL, rfl, HI, HAC, HO⟩ := hrel
    have hLA : L.length ≤ d.A.length := HI.out.le (fun _ _ => rfl)
    have o2 : wr.cell? ⟨w.heap.size + 1 + 1, 2, none⟩ = some (.slice AN N.length cN) := by have h := HO.out.out.cell 2; exact h
    have o3 : wr.cell? ⟨w.heap.size + 1 + 1, 3, none⟩ = some (.slice AA A.length cA) := by have h := HO.out.out.cell 3; exact h
    have zo2 : wr.frozen? ⟨w.heap.size + 1 + 1, 2, none⟩ = false := HO.out.out.frozen 2
    have zo3 : wr.frozen? ⟨w.heap.size + 1 + 1, 3, none⟩ = false := HO.out.out.frozen 3
    have hol : w.heap.size + 1 + 1 < wr.heap.size := HO.out.out.lt
    by_cases hlt : A.length < L.length
    · obtain ⟨gt, ot, s, hTA, hgt, hct, hs⟩ := (Rd.of_own HO.out.todo (Nat.le_refl _)).int_at hlt
      have hsr := HI.out.rng s (List.mem_of_getElem? hs)
      have HSG : Hid (gI L A.length = s) := by show _ = _; unfold gI; rw [List.getD_eq_getElem?_getD, hs]; rfl
      obtain ⟨hs1, hs2⟩ := hsr
      obtain ⟨ga, oa, va, rfl, hga, hca, hva⟩ := (HD.out.ra.below HO.out.bel).bool_ix hs1 hs2
      have HVA : Hid (d.acc s = va) := hva
      have hbx := HO.out.box
      obtain ⟨⟨a0, a1, a2, a3⟩, _⟩ := blk4 hbx
      have hltb := hbx.lt
      have hlga : ga < wr.heap.size := Nat.lt_of_lt_of_le hga HO.out.bel.size
      have HSS := Lib.hid hs
      subst hTA
      obtain ⟨i4, hi, hz, hs4, hb4⟩ := info_parts Try.info4
      have HI4 := Lib.hid hi; have HZ4 := Lib.hid hz; have HS4 := Lib.hid hs4; have HB4 := Lib.hid hb4
      clear hbx hva hs hi hz hs4 hb4
      have HL1 : Hid (A.length + 1 ≤ maxLen) := by show _ ≤ _; unfold maxLen; omega
      have HL2 : Hid ((A.length + 1) * 1 ≤ 140737488355328) := by show _ ≤ _; omega
      have HONE : Hid (∀ u ∈ [Value.bool va], u.oneCell' = true) := by intro u hu; rw [List.mem_singleton.1 hu]; rfl
      go_upto_region 6 with fail
      go_cut [7] (fun v7 wx => v7 = .slice (some ⟨gt, ot, none⟩) L.length tc ∧ ∃ (AA' : Option Addr) (cA' : Nat), Hid (OrdW w wx d An cn (some ⟨ga, oa, none⟩) ca (w.heap.size + 1 + 1 + 1) AN cN N AA' cA' (A ++ [va]) (some ⟨gt, ot, none⟩) tc L L.length (keyF cls L)))
      case first =>
        go_region_law
          (refine step_append_lies _ (by rfl) _ _ _ (by rfl) w.heap.size 4 i4 _ 1 1 Try.underlying23 HI4.out HZ4.out HS4.out HB4.out rfl (by omega) (.slice AA A.length cA) A.length (A.map Value.bool) (by rfl) (HO.out.acc.alloc (.cells #[.bool va] 4)).drew ⟨wr.heap.size, 0, none⟩ 1 1 [.bool va] (by rfl) (by simp) (World.news_of_block (cs := #[.bool va]) (t := 4) (fr := (0, 0)) (heap_alloc_new wr _)) HONE.out (by omega) HL1.out HL2.out (by have := HO.out.bel.size; simp; omega) _ rfl ?_
           intro gg cap w5 hown5 hgrow5 hat5 hlt5
           have HOX := Lib.hid ((HO.out.alloc (.cells #[.bool va] 4)).drew.accGrow (b := va) hown5 hgrow5)
           have hne5 : some (w.heap.size + 1 + 1) ≠ (Value.slice AA A.length cA).ownBlock := fun e => own_ne_blk HO.out.acc HO.out.out (by decide) e.symm
           have oo3 : w5.cell? ⟨w.heap.size + 1 + 1, 3, none⟩ = some (.slice AA A.length cA) := (hgrow5.cell_far ⟨w.heap.size + 1 + 1, 3, none⟩ (by simp; omega) hne5).trans ((World.cell?_alloc_lt wr _ ⟨w.heap.size + 1 + 1, 3, none⟩ hol).trans o3)
           have zz3 : w5.frozen? ⟨w.heap.size + 1 + 1, 3, none⟩ = false := (hgrow5.frozen_far ⟨w.heap.size + 1 + 1, 3, none⟩ (by simp; omega) hne5).trans ((HO.out.alloc (.cells #[.bool va] 4)).out.frozen 3)
           have hl5 : w.heap.size + 1 + 1 < w5.heap.size := Nat.lt_of_lt_of_le (by simp; omega) hgrow5.size
           clear hown5 hgrow5 hat5 hne5)
        all_goals
          go_wp2_with fail
          go_meet
          case rel => exact ⟨rfl, _, _, HOX⟩
      case rest =>
        obtain ⟨rfl, AA', cA', HO1⟩ := hcut
        obtain ⟨A1, hA1⟩ : ∃ A1, A1 = A ++ [va] := ⟨_, rfl⟩
        rw [← hA1] at HO1
        have HA1l : Hid (A1.length = A.length + 1) := by show _ = _; rw [hA1]; simp
        have HAC1 : Hid (A1 = (L.take A1.length).map d.acc) := by
          show _ = _
          rw [HA1l.out, take_snoc HSS.out, List.map_append, ← HAC.out, hA1]
          simp [HVA.out]
        clear a0 a1 a2 a3 o2 o3 zo2 zo3 hol hltb hlga hct hgt hca HAC hA1 HONE HL1 HL2 HI4 HZ4 HS4 HB4
        have hbx := HO1.out.box
        obtain ⟨⟨a0, a1, a2, a3⟩, _⟩ := blk4 hbx
        have hltb := hbx.lt
        clear hbx HO
        go_wp2_with fail
        clear a0 a1 a2 a3 hltb
        go_loopw [7, 9, 10, 11, 12, 50] (fun td _ _ _ _ xI wi => ∃ (y : Nat) (L' N' : List Int) (AN2 : Option Addr) (cN2 : Nat) (TA' : Option Addr) (tc' : Nat), td = .slice TA' L'.length tc' ∧ xI = .int .i64 y ∧ (y : Int) ≤ d.K ∧ A.length < L'.length ∧
            Hid (gI L' A.length = s) ∧ Hid (OInv d (fun s t : Int => gI cls s.toNat = gI cls t.toNat) L' N' A.length y) ∧ Hid (A1 = (L'.take A1.length).map d.acc) ∧ Hid (OrdW w wi d An cn (some ⟨ga, oa, none⟩) ca (w.heap.size + 1 + 1 + 1) AN2 cN2 N' AA' cA' A1 TA' tc' L' L'.length (keyF cls L'))) (fun _ _ _ _ _ xI _ => (d.K - intOf xI).toNat)
        case atStart => exact ⟨0, L, N, _, _, _, _, rfl, rfl, by omega, hlt, HSG, HI, HAC1, HO1⟩
        case round =>
          clear HSG HI HAC1 HO1
          obtain ⟨y, L', N', AN2, cN2, TA', tc', rfl, rfl, hyK, hlt', HSG, HI, HAC, HO⟩ := hrel
          have hLA' : L'.length ≤ d.A.length := HI.out.le (fun _ _ => rfl)
          have hbx := HO.out.box
          obtain ⟨⟨a0, a1, a2, a3⟩, _⟩ := blk4 hbx
          have hltb := hbx.lt
          clear hbx
          by_cases hyl : (y : Int) < d.K
          · have hmb := HOK.out.mul_bd (s := s) ⟨hs1, hs2⟩
            have hix := HOK.out.idx (s := s) (x := (y : Int)) ⟨hs1, hs2⟩ ⟨by omega, hyl⟩
            obtain ⟨gn, on, q, hAn, hgn, hcq, hq⟩ := (HD.out.rn.below HO.out.bel).int_ix hix.1 hix.2
            have hqr := HOK.out.step_lt (s := s) (x := (y : Int)) ⟨hs1, hs2⟩ ⟨by omega, hyl⟩
            have hst : d.step s y = q := hq
            rw [hst] at hqr
            obtain ⟨q0, q1⟩ := hqr
            obtain ⟨gc', oc', kq, hAc, hgc', hck, hkq⟩ := (HC.out.r.below HO.out.bel).int_ix q0 (by rw [HCL.out]; exact q1)
            obtain ⟨rfl, rfl⟩ : gc = gc' ∧ oc = oc' := by simpa using hAc
            have hkq' : gI cls q.toNat = kq := hkq
            obtain ⟨hm1, hm2⟩ := hmb
            obtain ⟨hi1, hi2⟩ := hix
            have v1 : IntKind.i64.wrap (s * d.K) = s * d.K := by rw [IntKind.wrap_i64]; omega
            have v2 : IntKind.i64.wrap (s * d.K + y) = s * d.K + y := by rw [IntKind.wrap_i64]; omega
            have hlgn : gn < wr.heap.size := Nat.lt_of_lt_of_le hgn HO.out.bel.size
            have hlgc : gc < wr.heap.size := Nat.lt_of_lt_of_le hgcl HO.out.bel.size
            have hqcl : q < cls.length := by rw [HCL.out]; exact q1
            have HST := Lib.hid hst; have HKQ := Lib.hid hkq'
            obtain ⟨i3, hi, hz, hs3, hb3⟩ := info_parts Try.info3
            have HI3 := Lib.hid hi; have HZ3 := Lib.hid hz; have HS3 := Lib.hid hs3; have HB3 := Lib.hid hb3
            have hNl : N'.length ≤ 40000000 := by
              have h1 := HI.out.len
              have h2 : A.length * d.K.toNat ≤ 65536 * 512 := Nat.mul_le_mul (by omega) (by omega)
              omega
            subst hAn
            clear hq hst hAc hkq hkq' hi hz hs3 hb3
            by_cases hmem : kq ∈ keyL cls L'
            · obtain ⟨j, hj, hjk, hv, hok⟩ := keyF_yes hmem
              have HV := Lib.hid hv; have HOKK := Lib.hid hok; have HJK := Lib.hid hjk
              have HIS : Hid (OInv d (fun s t : Int => gI cls s.toNat = gI cls t.toNat) L' (N' ++ [(j : Int)]) A.length (y + 1)) :=
                HI.out.seen (by omega) hj (by show gI cls _ = gI cls _; rw [HSG.out, HST.out, HKQ.out]; exact HJK.out)
              clear hmem hv hok hjk
              have o2 : wr.cell? ⟨w.heap.size + 1 + 1, 2, none⟩ = some (.slice AN2 N'.length cN2) := by have h := HO.out.out.cell 2; exact h
              have hol : w.heap.size + 1 + 1 < wr.heap.size := HO.out.out.lt
              have HOA := Lib.hid (HO.out.alloc (.cells #[.int .i64 j] 3))
              have HNX := Lib.hid HOA.out.next
              go_wp2_with (first | (at_lookup; go_must (refine wpList_look_ok _ rfl (.tmp 64) (.tmp 68) 128 rfl keys3 Try.underlying128 (Try.zero3 _) (w.heap.size + 1 + 1 + 1) L'.length (keyF cls L') rfl HO.out.map kq rfl (.int .i64 j) true HV.out HOKK.out ?_)) | (at_builtin; go_must (refine wpList_append_own_at _ rfl (.tmp 87) (.tmp 89) 22 rfl w.heap.size 3 i3 (.int .i64 0) 1 8 Try.underlying22 HI3.out HZ3.out HS3.out HB3.out rfl (by omega) (.slice AN2 N'.length cN2) N'.length (N'.map (Value.int .i64)) rfl HNX.out ⟨wr.heap.size, 0, none⟩ 1 1 [.int .i64 j] rfl rfl (World.news_of_block (cs := #[.int .i64 j]) (t := 3) (fr := (0, 0)) (heap_alloc_new wr _)) ?c2 ?c3 ?c4 ?c5 ?_)))
              case c2 => intro u hu; rw [List.mem_singleton.1 hu]; rfl
              case c3 => unfold maxLen; omega
              case c4 => omega
              case c5 => have := HO.out.bel.size; simp; omega
              intro v1 w8 hown8 hgr8 _ hat8
              obtain ⟨AN3, cN3, rfl⟩ := own_form hown8
              have HOX := Lib.hid (HOA.out.nextGrow (q := (j : Int)) hown8 hgr8 (hat8.imp id (fun h => h.trans (by simp))))
              have hne8 : some (w.heap.size + 1 + 1) ≠ (Value.slice AN2 N'.length cN2).ownBlock := fun e => own_ne_blk HOA.out.next HOA.out.out (by decide) e.symm
              have oo2 : w8.cell? ⟨w.heap.size + 1 + 1, 2, none⟩ = some (.slice AN2 N'.length cN2) := (hgr8.cell_far ⟨w.heap.size + 1 + 1, 2, none⟩ (by simp; omega) hne8).trans ((World.cell?_alloc_lt wr _ ⟨w.heap.size + 1 + 1, 2, none⟩ hol).trans o2)
              have zz2 : w8.frozen? ⟨w.heap.size + 1 + 1, 2, none⟩ = false := (hgr8.frozen_far ⟨w.heap.size + 1 + 1, 2, none⟩ (by simp; omega) hne8).trans (HOA.out.out.frozen 2)
              have hl8 : w.heap.size + 1 + 1 < w8.heap.size := Nat.lt_of_lt_of_le (by simp; omega) hgr8.size
              have HNL : Hid ((N' ++ [(j : Int)]).length = N'.length + 1) := by show _ = _; simp
              clear hown8 hgr8 hat8 hne8 o2 hol HOA HNX
              go_wp2_with fail
              go_roundw
              case rel => exact ⟨y + 1, L', N' ++ [(j : Int)], _, _, _, _, rfl, by go_num, by omega, hlt', HSG, HIS, HAC, HOX⟩
              case measure => simp [intOf]; omega
            · obtain ⟨hnk, hv, hok⟩ := keyF_no hmem
              have HV := Lib.hid hv; have HOKK := Lib.hid hok
              have HGR : Hid (∀ c, (if c = kq then some (Value.int .i64 ((L'.length : Nat) : Int)) else keyF cls L' c) = keyF cls (L' ++ [q]) c) := by
                have h := keyF_grow (cls := cls) (L := L') (q := q) (by rw [HKQ.out]; exact hmem)
                rw [HKQ.out] at h
                exact h
              have HIS : Hid (OInv d (fun s t : Int => gI cls s.toNat = gI cls t.toNat) (L' ++ [q]) (N' ++ [((L'.length : Nat) : Int)]) A.length (y + 1)) := by
                have h := HI.out.fresh HOK.out hlt' (by omega) (fun _ _ => rfl) (fun _ _ h => h.symm) (fun j hj => by
                  show ¬ gI cls _ = gI cls _
                  rw [HSG.out, HST.out, HKQ.out]
                  exact hnk j hj)
                rw [HSG.out, HST.out] at h
                exact h
              clear hmem hv hok hnk
              go_wp2_with (first
                | (at_lookup; go_must (refine wpList_look_ok _ rfl (.tmp 64) (.tmp 68) 128 rfl keys3 Try.underlying128 (Try.zero3 _) (w.heap.size + 1 + 1 + 1) L'.length (keyF cls L') rfl HO.out.map kq rfl (.int .i64 0) false HV.out HOKK.out ?_))
                | (at_mapUpdate; go_must (refine wpList_store _ rfl (.tmp 76) (.tmp 80) (.tmp 81) 128 rfl keys3 Try.underlying128 (w.heap.size + 1 + 1 + 1) L'.length (keyF cls L') rfl HO.out.map kq (.int .i64 ((L'.length : Nat) : Int)) rfl rfl ?_)))
              intro w7 hm7 ht7
              have HO7 := Lib.hid (HO.out.mapPut (hm7.ext HGR.out) ht7)
              clear hm7 ht7 HO a0 a1 a2 a3 hltb hcq hck hlgn hlgc
              have HOB := Lib.hid (HO7.out.alloc (.cells #[.int .i64 q] 3))
              have HTD := Lib.hid HOB.out.todo
              go_wp2_with (at_builtin; go_must (refine wpList_append_own_at _ rfl (.tmp 82) (.tmp 84) 22 rfl w.heap.size 3 i3 (.int .i64 0) 1 8 Try.underlying22 HI3.out HZ3.out HS3.out HB3.out rfl (by omega) (.slice TA' L'.length tc') L'.length (L'.map (Value.int .i64)) rfl HTD.out ⟨w7.heap.size, 0, none⟩ 1 1 [.int .i64 q] rfl rfl (World.news_of_block (cs := #[.int .i64 q]) (t := 3) (fr := (0, 0)) (heap_alloc_new w7 _)) ?d2 ?d3 ?d4 ?d5 ?_))
              case d2 => intro u hu; rw [List.mem_singleton.1 hu]; rfl
              case d3 => unfold maxLen; omega
              case d4 => omega
              case d5 => have := HO7.out.bel.size; simp; omega
              intro v0 w9 hown9 hgr9 _ hat9
              obtain ⟨TA2, tc2, rfl⟩ := own_form hown9
              have HO9 := Lib.hid (HOB.out.todoGrow (q := q) hown9 hgr9 (hat9.imp id (fun h => h.trans (by simp))))
              have HLN : Hid ((L' ++ [q]).length = L'.length + 1) := by show _ = _; simp
              clear hown9 hgr9 hat9 HOB HTD HO7
              have o2 : w9.cell? ⟨w.heap.size + 1 + 1, 2, none⟩ = some (.slice AN2 N'.length cN2) := by have h := HO9.out.out.cell 2; exact h
              have hol : w.heap.size + 1 + 1 < w9.heap.size := HO9.out.out.lt
              have HOA := Lib.hid (HO9.out.alloc (.cells #[.int .i64 ((L'.length : Nat) : Int)] 3))
              have HNX := Lib.hid HOA.out.next
              go_wp2_with (at_builtin; go_must (refine wpList_append_own_at _ rfl (.tmp 87) (.tmp 89) 22 rfl w.heap.size 3 i3 (.int .i64 0) 1 8 Try.underlying22 HI3.out HZ3.out HS3.out HB3.out rfl (by omega) (.slice AN2 N'.length cN2) N'.length (N'.map (Value.int .i64)) rfl HNX.out ⟨w9.heap.size, 0, none⟩ 1 1 [.int .i64 ((L'.length : Nat) : Int)] rfl rfl (World.news_of_block (cs := #[.int .i64 ((L'.length : Nat) : Int)]) (t := 3) (fr := (0, 0)) (heap_alloc_new w9 _)) ?c2 ?c3 ?c4 ?c5 ?_))
              case c2 => intro u hu; rw [List.mem_singleton.1 hu]; rfl
              case c3 => unfold maxLen; omega
              case c4 => omega
              case c5 => have := HO9.out.bel.size; simp; omega
              intro v1 w8 hown8 hgr8 _ hat8
              obtain ⟨AN3, cN3, rfl⟩ := own_form hown8
              have HOX := Lib.hid (HOA.out.nextGrow (q := ((L'.length : Nat) : Int)) hown8 hgr8 (hat8.imp id (fun h => h.trans (by simp))))
              have hne8 : some (w.heap.size + 1 + 1) ≠ (Value.slice AN2 N'.length cN2).ownBlock := fun e => own_ne_blk HOA.out.next HOA.out.out (by decide) e.symm
              have oo2 : w8.cell? ⟨w.heap.size + 1 + 1, 2, none⟩ = some (.slice AN2 N'.length cN2) := (hgr8.cell_far ⟨w.heap.size + 1 + 1, 2, none⟩ (by simp; omega) hne8).trans ((World.cell?_alloc_lt w9 _ ⟨w.heap.size + 1 + 1, 2, none⟩ hol).trans o2)
              have zz2 : w8.frozen? ⟨w.heap.size + 1 + 1, 2, none⟩ = false := (hgr8.frozen_far ⟨w.heap.size + 1 + 1, 2, none⟩ (by simp; omega) hne8).trans (HOA.out.out.frozen 2)
              have hl8 : w.heap.size + 1 + 1 < w8.heap.size := Nat.lt_of_lt_of_le (by simp; omega) hgr8.size
              have HNL : Hid ((N' ++ [((L'.length : Nat) : Int)]).length = N'.length + 1) := by show _ = _; simp
              clear hown8 hgr8 hat8 hne8 o2 hol HOA HNX
              go_wp2_with fail
              go_roundw
              case rel =>
                refine ⟨y + 1, L' ++ [q], N' ++ [((L'.length : Nat) : Int)], _, _, _, _, by rw [HLN.out], by go_num, by omega, by rw [HLN.out]; omega, ?_, HIS, ?_, by rw [HLN.out]; exact HOX.out⟩
                · show gI (L' ++ [q]) A.length = s
                  rw [gI_left hlt']; exact HSG.out
                · show A1 = _
                  rw [List.take_append_of_le_length (by rw [HA1l.out]; omega)]
                  exact HAC.out
              case measure => simp [intOf]; omega
          · have hyk : y = d.K.toNat := by omega
            have HIN : Hid (OInv d (fun s t : Int => gI cls s.toNat = gI cls t.toNat) L' N' A1.length 0) := by rw [HA1l.out]; exact HI.out.next (by omega) (by omega)
            have hgk : d.A.length - A1.length < d.A.length - A.length := by rw [HA1l.out]; omega
            have hle : A1.length ≤ L'.length := by rw [HA1l.out]; omega
            clear hyk
            go_wp2_with fail
            go_roundg (d.A.length - A1.length)
            case measure => exact hgk
            case rel => exact ⟨L', N', A1, _, _, _, _, _, _, rfl, hle, rfl, HIN, HAC, HO⟩
    · have hjl : A.length = L.length := by omega
      have HJL := Lib.hid hjl; clear hjl
      have hbr := HO.out.res
      obtain ⟨⟨r0, r1, r2, r3⟩, y0, y1, y2, y3⟩ := blk4 hbr
      have hlr := hbr.lt
      have o0 : wr.cell? ⟨w.heap.size + 1 + 1, 0, none⟩ = some (.int .i64 d.K) := by have h := HO.out.out.cell 0; exact h
      have o1 : wr.cell? ⟨w.heap.size + 1 + 1, 1, none⟩ = some (.int .i64 0) := by have h := HO.out.out.cell 1; exact h
      clear hbr
      go_wp2_with fail
      refine bodyPost_ret (v := .agg #[.int .i64 d.K, .int .i64 0, .slice AN N.length cN, .slice AA A.length cA]) ?_ rfl ?_
      · simp [results, Try.results93, go_sem, r0, r1, r2, r3]
      · have hA2 : A = L.map d.acc := by
          have h := HAC.out
          rw [HJL.out, List.take_length] at h
          exact h
        have hin := HI.out
        rw [HJL.out] at hin
        refine ⟨L, N, _, hin, rfl, ⟨AN, cN, AA, cA, ?_, ?_, ?_⟩, HO.out.bel.trans ((touch4 wr (w.heap.size + 1) _ _ _ _).toBelow HO.out.bel.size (fun k hk e => by omega))⟩
        · show _ = dfaV d.K 0 AN N.length cN AA (L.map d.acc).length cA
          rw [← hA2]
        · exact own_touch HO.out.next (touch4 wr (w.heap.size + 1) _ _ _ _) (fun k hk e => own_ne_blk HO.out.next HO.out.res (by decide) (by rw [← e]; exact hk))
        · show World.ownsRow _ _ _ _ (.slice AA (L.map d.acc).length cA) (L.map d.acc).length ((L.map d.acc).map Value.bool)
          rw [← hA2]
          exact own_touch HO.out.acc (touch4 wr (w.heap.size + 1) _ _ _ _) (fun k hk e => own_ne_blk HO.out.acc HO.out.res (by decide) (by rw [← e]; exact hk))
end Go.Proofs.Ytmpcoclgcldclaa
