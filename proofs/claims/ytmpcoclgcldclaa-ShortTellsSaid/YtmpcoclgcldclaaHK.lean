/- The walk of layer 17's document answer Least. -/
import Derived.Test.YtmpcoclgcldclaaHI
namespace Go.Proofs.Ytmpcoclgcldclaa
open Go.RowKit
attribute [local go_sem ↓] Go.wp_at_zero Go.wp_at_succ

theorem Try.info46 : (Try.prog.info? 46).map (fun i => (i.zero, i.size, i.bytes)) = some (some (.agg #[.bool false, .slice none 0 0]), 2, 32) := by kernel_rfl
theorem Try.info93 : (Try.prog.info? 93).map (fun i => (i.zero, i.size, i.bytes)) = some (some (.slice none 0 0), 1, 24) := by kernel_rfl
/-- what the document's Least gives -/
def RefLeastR (d : D) (cs : List Int) (most : Int) (w : World) (e : Ending) (w' : World) : Prop :=
  ∃ (o : Option (List Int)) (A : Option Addr) (c : Nat), e = .returned (.agg #[.bool o.isSome, .slice A (o.getD []).length c]) ∧ LeastP d cs most o ∧ Rd w' w'.heap.size A ((o.getD []).map (Value.int .i64)) ∧ Below w.heap.size w w'
theorem bvRow_at {w : World} {base n c : Nat} {A : Option Addr} {R : List BV} (h : w.ownsRow base 46 2 (.slice A n c) n (flatB R)) {s : Nat} (hn : R.length = n) (hs : s < n) :
    ∃ g o Aw cw, A = some ⟨g, 0, none⟩ ∧ g < w.heap.size ∧ R[s]? = some (o, Aw, cw) ∧ w.cell? ⟨g, s * 2, none⟩ = some (.bool o.isSome) ∧ w.cell? ⟨g, s * 2 + 1, none⟩ = some (.slice Aw (o.getD []).length cw) := by
  obtain ⟨g, cap, hA, _, hg⟩ := h.form (by omega)
  obtain rfl : A = some ⟨g, 0, none⟩ := by injection hA
  obtain ⟨⟨o, Aw, cw⟩, hp⟩ : ∃ p, R[s]? = some p := ⟨_, List.getElem?_eq_getElem (by omega)⟩
  obtain ⟨f1, f2⟩ := flatB_at R s _ hp
  refine ⟨g, o, Aw, cw, rfl, hg, hp, ?_, ?_⟩
  · rw [h.cellAt _ (by omega), Nat.mul_comm]; exact f1
  · rw [h.cellAt _ (by omega), Nat.mul_comm]; exact f2
set_option maxHeartbeats 32000000 in
set_option maxRecDepth 100000 in
theorem refLeast_any (d : D) (cs : List Int) (most : Int) (An Aa Ac : Option Addr) (cn ca cc : Nat) (w : World) (hd : DIn w d An Aa) (hc : WIn w cs Ac) (hf : Fit d cs) (hA : d.A.length ≤ 10) (hm : most ≤ 60) :
    Calls Try.prog 50 #[dfaV d.K d.S An d.N.length cn Aa d.A.length ca, .slice Ac cs.length cc, .int .i64 most] w (RefLeastR d cs most w) := by
  have HD := Lib.hid hd; have HC := Lib.hid hc; have HF := Lib.hid hf
  have hK1 : 1 ≤ d.K := hf.ok.1
  have hK2 : d.K ≤ 512 := hf.ok.2.1
  have hS1 : 0 ≤ d.S := hf.ok.2.2.2.2.2.1
  have hS2 : d.S < d.A.length := hf.ok.2.2.2.2.2.2.1
  have hA1 : 1 ≤ d.A.length := hf.ok.2.2.1
  obtain ⟨i46, hi, hz, hs, hb⟩ := info_parts Try.info46
  have HI := Lib.hid hi; have HZ := Lib.hid hz; have HS := Lib.hid hs; have HBY := Lib.hid hb
  clear hi hz hs hb
  obtain ⟨i93, hi, hz, hs, hb⟩ := info_parts Try.info93
  have HI9 := Lib.hid hi; have HZ9 := Lib.hid hz; have HS9 := Lib.hid hs; have HBY9 := Lib.hid hb
  clear hi hz hs hb hd hc hf
  have HL0 : Hid (LW w (((w.alloc (boxD d An cn Aa ca)).alloc (.cells #[.bool false, .slice none 0 0] 46)).alloc (.cells #[] 93)) d An cn Aa ca (some ⟨w.heap.size + 1 + 1, 0, none⟩) 0 [] []) := by
    have hn : Nest (α := BV) (((w.alloc (boxD d An cn Aa ca)).alloc (.cells #[.bool false, .slice none 0 0] 46)).alloc (.cells #[] 93)) w.heap.size 93 46 2 flatB (some ⟨w.heap.size + 1 + 1, 0, none⟩) 0 [] [] := by
      refine ⟨rfl, ?_, fun s l h => by simp at h, fun s t u v k _ h => by simp at h⟩
      have h := World.ownsRow_lit (base := w.heap.size) (e := 93) (size := 1) ((w.alloc (boxD d An cn Aa ca)).alloc (.cells #[.bool false, .slice none 0 0] 46)) #[] 0 (by simp; omega) (by decide) rfl
      simp only [size_alloc_one] at h
      exact h
    refine ⟨((Blk.new w 25 _).alloc _).alloc _, ?_, hn, fun R hR => by simp at hR, fun t u k h => by simp at h, bel_alloc (bel_alloc (bel_new w _) _) _⟩
    have h := (Blk.new (w.alloc (boxD d An cn Aa ca)) 46 #[.bool false, .slice none 0 0]).alloc (.cells #[] 93)
    simp only [size_alloc_one] at h
    exact h
  have HR0 : Hid (∀ (i : Nat) (R : List BV), ([] : List (List BV))[i]? = some R → RowP d (CW d cs (i : Int)) (opts R)) := fun i R h => by simp at h
  have HN0 : Hid (NoneBelow d cs ((([] : List (List BV)).length : Nat) : Int)) := none_start HF.out
  go_enter Try.func50, Try.ntmps50
  go_wp2_with fail
  go_loopw [8, 9, 10, 11, 12, 13, 14, 15, 16, 17] (fun l cI _ _ _ _ _ _ _ _ wr => ∃ (LL : List (List BV)) (vsL : List Value) (AL : Option Addr) (cl : Nat), l = .slice AL LL.length cl ∧ cI = .int .i64 ((LL.length : Nat) : Int) ∧ LL.length ≤ 61 ∧ Hid (LW w wr d An cn Aa ca AL cl LL vsL) ∧
      Hid (∀ (i : Nat) (R : List BV), LL[i]? = some R → RowP d (CW d cs (i : Int)) (opts R)) ∧ Hid (NoneBelow d cs ((LL.length : Nat) : Int))) (fun _ cI _ _ _ _ _ _ _ _ _ => (most + 1 - intOf cI).toNat)
  case atStart => exact ⟨[], [], _, 0, rfl, rfl, by simp, HL0, HR0, HN0⟩
  case round =>
    clear HL0 HR0 HN0
    obtain ⟨LL, vsL, AL, cl, rfl, rfl, hLc, HL, HRR, HNB⟩ := hrel
    by_cases hcm : ((LL.length : Nat) : Int) ≤ most
    · go_wp2_with (refine wpList_make_full _ rfl (.tmp 27) (.tmp 27) 93 rfl w.heap.size 46 i46 (.agg #[.bool false, .slice none 0 0]) 2 Try.underlying93 HI.out HZ.out HS.out .i64 .i64 _ _ d.A.length rfl rfl rfl rfl ?b2 ?b3 ?b4 ?_)
      case b2 => rw [HBY.out]; omega
      case b3 => unfold maxLen; omega
      case b4 => exact HL.out.bel.size
      intro w1 hown1 hgr1
      have hown2 : w1.ownsRow w.heap.size 46 2 (.slice (some ⟨wr.heap.size, 0, none⟩) d.A.length d.A.length) d.A.length (flatB (List.replicate d.A.length (none, none, 0))) := by
        rw [← made_flatB]; exact hown1
      have hbel : Below wr.heap.size wr w1 := (Touch.ofGrown hgr1).toBelow (Nat.le_refl _) (fun k hk e => by cases e)
      have HL1 := Lib.hid (HL.out.up hbel)
      have HRW : Hid (RW w w1 wr.heap.size d.A.length (List.replicate d.A.length (none, none, 0)) vsL) := by
        refine ⟨by simp, hown2, fun p hp => ?_, fun t u k hu hk e => ?_, ?_⟩
        · rw [(List.mem_replicate.1 hp).2]; exact RdT.nil_
        · have ht : t < LL.length := by have := (List.getElem?_eq_some_iff.1 hu).1; rw [HL.out.nest.vlen] at this; exact this
          obtain ⟨A', c', h1, h2⟩ := HL.out.nest.inner t _ (List.getElem?_eq_getElem ht)
          rw [hu] at h1
          rw [Option.some.inj h1] at hk
          have := (h2.lt k hk).2
          omega
        · have := HL.out.res.lt; omega
      clear hown1 hown2 hgr1 hbel HL
      generalize wr.heap.size = gr at HRW ⊢
      have hbx := HL1.out.box
      obtain ⟨⟨a0, a1, a2, a3⟩, _⟩ := blk4 hbx
      have hltb := hbx.lt
      clear hbx
      go_upto_if 30 with fail
      go_cut [10] (fun v10 wx => v10 = .slice (some ⟨gr, 0, none⟩) d.A.length d.A.length ∧ ∃ R : List BV, Hid (RQ d cs ((LL.length : Nat) : Int) 0 (opts R)) ∧ Hid (LW w wx d An cn Aa ca AL cl LL vsL) ∧ Hid (RW w wx gr d.A.length R vsL))
      case first =>
        by_cases hc0 : LL.length = 0
        · have hb0 : (((LL.length : Nat) : Int) == 0) = true := by simp [hc0]
          obtain ⟨o, Aw, cw, _, r0, r1, _⟩ := HRW.out.at_ (s := d.S.toNat) (by simp; omega)
          have z0 : w1.frozen? ⟨gr, d.S.toNat * 2, none⟩ = false := HRW.out.row.frozenAt _
          have z1 : w1.frozen? ⟨gr, d.S.toNat * 2 + 1, none⟩ = false := HRW.out.row.frozenAt _
          have hgl : gr < w1.heap.size := (HRW.out.row.lt gr rfl).2
          have ht := touch_two w1 gr d.S.toNat (.bool true) (.slice none 0 0)
          have HL2 := Lib.hid (HL1.out.touch ht HRW.out.lo HRW.out.typ HRW.out.far)
          have HRW2 := Lib.hid (HRW.out.set_ d.S.toNat (some [], none, 0) RdT.nil_)
          have HQ : Hid (RQ d cs ((LL.length : Nat) : Int) 0 (opts ((List.replicate d.A.length ((none, none, 0) : BV)).set d.S.toNat (some [], none, 0)))) := by
            show RQ _ _ _ _ _
            unfold RQ
            rw [if_pos (by simp [hc0]), opts_set]
            have e : opts (List.replicate d.A.length ((none, none, 0) : BV)) = List.replicate d.A.length none := by simp [opts]
            rw [e]
            exact row_zero HF.out
          clear ht hc0
          go_wp2_with fail
          go_meet
          case rel => exact ⟨rfl, _, HQ, HL2, HRW2⟩
        · have hb0 : (((LL.length : Nat) : Int) == 0) = false := by
            have : ¬ ((LL.length : Nat) : Int) = 0 := by omega
            simpa using hc0
          have HQ : Hid (RQ d cs ((LL.length : Nat) : Int) 0 (opts (List.replicate d.A.length ((none, none, 0) : BV)))) := by
            have e : opts (List.replicate d.A.length ((none, none, 0) : BV)) = List.replicate d.A.length none := by simp [opts]
            rw [e]
            exact RQ.of (row_new HF.out _) (by omega)
          go_wp2_with fail
          go_meet
          case rel => exact ⟨rfl, _, HQ, HL1, HRW⟩
      case rest =>
        clear a0 a1 a2 a3 hltb HRW HL1
        obtain ⟨rfl, R, HQ, HL, HRW⟩ := hcut
        go_wp2_with fail
        go_loopw [11, 12, 13, 14, 15] (fun xI _ _ _ _ wr => ∃ (x : Nat) (R : List BV), xI = .int .i64 x ∧ (x : Int) ≤ d.K ∧ Hid (RQ d cs ((LL.length : Nat) : Int) x (opts R)) ∧ Hid (LW w wr d An cn Aa ca AL cl LL vsL) ∧ Hid (RW w wr gr d.A.length R vsL)) (fun xI _ _ _ _ _ => (d.K - intOf xI).toNat)
        case atStart => exact ⟨0, R, rfl, by omega, HQ, HL, HRW⟩
        case round =>
          clear HQ HL HRW
          obtain ⟨x, R, rfl, hxK, HQ, HL, HRW⟩ := hrel
          have hbx := HL.out.box
          obtain ⟨⟨a0, a1, a2, a3⟩, _⟩ := blk4 hbx
          have hltb := hbx.lt
          clear hbx
          by_cases hxl : (x : Int) < d.K
          · obtain ⟨gc, oc, cx, rfl, hgc, hcx, hcv⟩ := (HC.out.r.below HL.out.bel).int_ix (i := (x : Int)) (by omega) (by rw [HF.out.len]; exact hxl)
            rw [Int.toNat_natCast] at hcx
            have hcst := HF.out.cst (x := (x : Int)) ⟨by omega, hxl⟩
            have hcv' : cst cs x = cx := hcv
            rw [hcv'] at hcst
            have hxlen : (x : Int) < cs.length := by rw [HF.out.len]; exact hxl
            have hltc : gc < wr.heap.size := Nat.lt_of_lt_of_le hgc HL.out.bel.size
            have HCV := Lib.hid hcv'
            clear hcv hcv'
            by_cases hbig : ((LL.length : Nat) : Int) < cx
            · have HQ2 : Hid (RQ d cs ((LL.length : Nat) : Int) ((x + 1 : Nat) : Int) (opts R)) := by
                have h := HQ.out.skip HF.out (by rw [HCV.out]; exact hbig)
                exact_mod_cast h
              go_wp2_with fail
              go_roundw
              case rel => exact ⟨x + 1, R, by go_num, by omega, HQ2, HL, HRW⟩
              case measure => simp [intOf]; omega
            · have HQ1 := Lib.hid (HQ.out.toRow (by omega))
              go_wp2_with fail
              go_loopw [12, 13, 14, 15] (fun sI _ _ _ wr => ∃ (s : Nat) (R : List BV), sI = .int .i64 s ∧ s ≤ d.A.length ∧ Hid (RowP d (CP d cs ((LL.length : Nat) : Int) x s) (opts R)) ∧ Hid (LW w wr d An cn Aa ca AL cl LL vsL) ∧ Hid (RW w wr gr d.A.length R vsL)) (fun sI _ _ _ _ => d.A.length - (intOf sI).toNat)
              case atStart => exact ⟨0, R, rfl, Nat.zero_le _, HQ1, HL, HRW⟩
              case round =>
                clear HQ HQ1 HL HRW a0 a1 a2 a3 hltb
                obtain ⟨s, R, rfl, hsA, HQ, HL, HRW⟩ := hrel
                by_cases hsl : s < d.A.length
                · obtain ⟨j, hj⟩ : ∃ j : Nat, ((LL.length : Nat) : Int) - cx = (j : Int) := ⟨(((LL.length : Nat) : Int) - cx).toNat, by omega⟩
                  have hjl : j < LL.length := by omega
                  obtain ⟨R2, hR2⟩ : ∃ R2, LL[j]? = some R2 := ⟨_, List.getElem?_eq_getElem hjl⟩
                  have hprev := HRR.out j R2 hR2
                  have hlen2 : R2.length = d.A.length := by rw [← opts_len]; exact hprev.1
                  obtain ⟨gl, Al2, cl2, rfl, hv2, hcl2, _, hrow2⟩ := HL.out.nest.get hR2
                  obtain ⟨g2, o, Aw, cw, rfl, hg2, hR2s, hc20, hc21⟩ := bvRow_at (s := s) (by rw [hlen2] at hrow2; exact hrow2) hlen2 hsl
                  rw [hlen2] at hcl2
                  have hglt : gl < wr.heap.size := (HL.out.nest.outer.lt gl rfl).2
                  have hwi : Hid (WordIn wr (o, Aw, cw)) := HL.out.words R2 (List.mem_of_getElem? hR2) _ (List.mem_of_getElem? hR2s)
                  have HRS : Hid (rowAt (opts R2) (s : Int) = o) := by
                    show _ = _
                    exact opts_at (p := (o, Aw, cw)) (by rw [Int.toNat_natCast]; exact hR2s)
                  have HPREV : Hid (RowP d (CW d cs (((LL.length : Nat) : Int) - cst cs x)) (opts R2)) := by
                    rw [HCV.out, hj]; exact hprev
                  have hcc : wr.cell? ⟨gc, oc + x, none⟩ = some (.int .i64 cx) := by
                    have h := (HC.out.r.below HL.out.bel).int_ix (i := (x : Int)) (by omega) (by rw [HF.out.len]; exact hxl)
                    obtain ⟨gc', oc', cx', he, _, hh, hh2⟩ := h
                    obtain ⟨rfl, rfl⟩ : gc = gc' ∧ oc = oc' := by simpa using he
                    have : cx' = cx := by rw [← hh2]; exact HCV.out
                    rw [this, Int.toNat_natCast] at hh
                    exact hh
                  have hltc2 : gc < wr.heap.size := Nat.lt_of_lt_of_le hgc HL.out.bel.size
                  have HV2 := Lib.hid hv2; have HR2 := Lib.hid hR2; have HR2s := Lib.hid hR2s
                  clear hprev hrow2 hR2 hR2s hv2 hcx hltc
                  have hbx := HL.out.box
                  obtain ⟨⟨a0, a1, a2, a3⟩, _⟩ := blk4 hbx
                  have hltb := hbx.lt
                  clear hbx
                  cases o with
                  | none =>
                    have HQ2 : Hid (RowP d (CP d cs ((LL.length : Nat) : Int) x ((s + 1 : Nat) : Int)) (opts R)) := by
                      have h := row_none HQ.out HPREV.out ⟨by omega, by omega⟩ HRS.out
                      exact_mod_cast h
                    simp only [Option.isSome_none, Option.getD_none] at hc20 hc21
                    go_wp2_with fail
                    go_roundw
                    case rel => exact ⟨s + 1, R, by go_num, by omega, HQ2, HL.out.alloc _, HRW.out.up (bel_new wr _)⟩
                    case measure => simp [intOf]; omega
                  | some W =>
                    have hpb := HPREV.out.2 (s : Int) ⟨by omega, by omega⟩
                    rw [HRS.out] at hpb
                    have hWl : W.length ≤ 61 := by
                      have h1 := HF.out.len_le W hpb.1.1
                      have h2 := hpb.1.2
                      have h3 := HCV.out
                      omega
                    obtain ⟨i3, hi, hz, hs, hb3⟩ := info_parts Try.info3
                    have HI3 := Lib.hid hi; have HZ3 := Lib.hid hz; have HS3 := Lib.hid hs; have HB3 := Lib.hid hb3
                    clear hi hz hs hb3 hpb
                    simp only [Option.isSome_some, Option.getD_some] at hc20 hc21
                    have HWI : Hid (Rd (wr.alloc (.cells #[.bool true, .slice Aw W.length cw] 46)) wr.heap.size Aw (W.map (Value.int .i64))) := hwi.out.rd.alloc (Nat.le_refl _) _
                    have WL : Hid (((wr.alloc (.cells #[.bool true, .slice Aw W.length cw] 46)).alloc (.cells #[] 3)).ownsRow 0 3 1 (.slice (some ⟨wr.heap.size + 1, 0, none⟩) 0 0) 0 []) := by
                      have h := World.ownsRow_lit (base := 0) (e := 3) (size := 1) (wr.alloc (.cells #[.bool true, .slice Aw W.length cw] 46)) #[] 0 (Nat.zero_le _) (Nat.zero_le _) rfl
                      simp only [size_alloc_one] at h
                      exact h
                    go_wp2_with (at_builtin; go_must (refine wpList_append_ints _ rfl (.tmp 68) (.tmp 70) rfl 0 i3 HI3.out HZ3.out HS3.out HB3.out (.slice (some ⟨wr.heap.size + 1, 0, none⟩) 0 0) 0 [] rfl WL.out wr.heap.size Aw cw W rfl ?c2f ?c3f (Nat.zero_le _) ?_))
                    case c2f => exact HWI.out.alloc (by simp) _
                    case c3f => omega
                    intro v1 x1 hown1 hgr1 hat1
                    try simp only [Nat.zero_add, List.nil_append] at hown1
                    have hb1 : Below wr.heap.size wr x1 := ((((Touch.refl (fun j => wr.heap.size ≤ j) wr).alloc (.cells #[.bool true, .slice Aw W.length cw] 46)).alloc (.cells #[] 3)).grown hgr1 (fun k hk _ => by simp [Value.ownBlock] at hk; omega)).toBelow (Nat.le_refl _) (fun k hk h => by omega)
                    have HB1 := Lib.hid hb1; have HOWN1 := Lib.hid hown1
                    have HAT1 : Hid (∀ k, v1.ownBlock = some k → wr.heap.size ≤ k) := fun k hk => by
                      rcases hat1 with h | h
                      · rw [hk] at h; simp [Value.ownBlock] at h; omega
                      · rw [hk] at h; simp at h; omega
                    clear hb1 hown1 hgr1 hat1 WL HWI
                    have HOWN2 := Lib.hid (HOWN1.out.alloc (.cells #[.int .i64 x] 3))
                    go_wp2_with (at_builtin; go_must (refine wpList_append_own_at _ rfl (.tmp 71) (.tmp 73) 22 rfl 0 3 i3 (.int .i64 0) 1 8 Try.underlying22 HI3.out HZ3.out HS3.out HB3.out rfl (by omega) v1 W.length (W.map (Value.int .i64)) rfl HOWN2.out ⟨x1.heap.size, 0, none⟩ 1 1 [.int .i64 x] rfl rfl (World.news_of_block (cs := #[.int .i64 x]) (t := 3) (fr := (0, 0)) (heap_alloc_new x1 _)) ?c2 ?c3 ?c4 (Nat.zero_le _) ?_))
                    case c2 => intro u hu; rw [List.mem_singleton.1 hu]; rfl
                    case c3 => unfold maxLen; omega
                    case c4 => omega
                    intro v2 x2 hown2 hgr2 _ hat2
                    have hb2 : Below wr.heap.size wr x2 := (((Touch.ofBelow HB1.out).alloc (.cells #[.int .i64 x] 3)).grown hgr2 (fun k hk _ => HAT1.out k hk)).toBelow (Nat.le_refl _) (fun k hk h => by omega)
                    obtain ⟨A6, c6, rfl⟩ := own_form hown2
                    obtain ⟨lg, hlg⟩ : ∃ lg, lg = W ++ [(x : Int)] := ⟨_, rfl⟩
                    have e3 : W.length + 1 = lg.length := by rw [hlg]; simp
                    have e4 : W.map (Value.int .i64) ++ [.int .i64 (x : Int)] = lg.map (Value.int .i64) := by rw [hlg, List.map_append]; rfl
                    rw [e3, e4] at hown2
                    have HWD : Hid (WordIn x2 (some lg, A6, c6)) := RdT.of_own hown2
                    have HL6 := Lib.hid (HL.out.up hb2)
                    have HRW6 := Lib.hid (HRW.out.up hb2)
                    have HWIN : Hid (WIn x2 lg A6) := ⟨by omega, HWD.out.rd⟩
                    have HQ6 := Lib.hid (row_some (x := (x : Int)) HF.out HQ.out HPREV.out ⟨by omega, by omega⟩ ⟨by omega, hxl⟩ HRS.out)
                    rw [← hlg] at HQ6
                    clear hown2 hgr2 hat2 hb2 HB1 HOWN1 HOWN2 HAT1 e4 hlg HL HRW a0 a1 a2 a3 hltb hwi hcc hltc2 hc20 hc21 hcl2 hglt hg2
                    rw [e3]
                    clear e3
                    obtain ⟨⟨a0, a1, a2, a3⟩, _⟩ := blk4 HL6.out.box
                    have hltb := HL6.out.box.lt
                    have hmb := HF.out.ok.mul_bd (s := (s : Int)) ⟨by omega, by omega⟩
                    have hix := HF.out.ok.idx (s := (s : Int)) (x := (x : Int)) ⟨by omega, by omega⟩ ⟨by omega, hxl⟩
                    obtain ⟨gn, on, tq, rfl, hgn, hcn, hto⟩ := (HD.out.rn.below HL6.out.bel).int_ix hix.1 hix.2
                    have htr := HF.out.ok.step_lt (s := (s : Int)) (x := (x : Int)) ⟨by omega, by omega⟩ ⟨by omega, hxl⟩
                    have hst : d.step s x = tq := hto
                    rw [hst] at htr HQ6
                    obtain ⟨t0, t1⟩ := htr
                    obtain ⟨hm1, hm2⟩ := hmb
                    obtain ⟨hi1, hi2⟩ := hix
                    have v1 : IntKind.i64.wrap ((s : Int) * d.K) = (s : Int) * d.K := by rw [IntKind.wrap_i64]; omega
                    have v2 : IntKind.i64.wrap ((s : Int) * d.K + x) = (s : Int) * d.K + x := by rw [IntKind.wrap_i64]; omega
                    have hltn : gn < x2.heap.size := Nat.lt_of_lt_of_le hgn HL6.out.bel.size
                    have hgrl : gr < x2.heap.size := (HRW6.out.row.lt gr rfl).2
                    obtain ⟨o2, A2, c2, hR2, r0, r1, hw2⟩ := HRW6.out.at_ (s := tq.toNat) (by rw [HRW6.out.rlen]; omega)
                    have hro : rowAt (opts R) tq = o2 := opts_at (p := (o2, A2, c2)) hR2
                    unfold putRow at HQ6
                    rw [hro] at HQ6
                    have hpb2 := HQ.out.2 tq ⟨t0, t1⟩
                    rw [hro] at hpb2
                    have HPB2 := Lib.hid hpb2
                    clear hto hst hro hR2 hpb2
                    have z0 : x2.frozen? ⟨gr, tq.toNat * 2, none⟩ = false := HRW6.out.row.frozenAt _
                    have z1 : x2.frozen? ⟨gr, tq.toNat * 2 + 1, none⟩ = false := HRW6.out.row.frozenAt _
                    cases o2 with
                    | none =>
                      have ht := touch_two x2 gr tq.toNat (.bool true) (.slice A6 lg.length c6)
                      have HL7 := Lib.hid (HL6.out.touch ht HRW6.out.lo HRW6.out.typ HRW6.out.far)
                      have HRW7 := Lib.hid (HRW6.out.set_ tq.toNat (some lg, A6, c6) HWD.out)
                      have HQ7 : Hid (RowP d (CP d cs ((LL.length : Nat) : Int) x ((s + 1 : Nat) : Int)) (opts (R.set tq.toNat (some lg, A6, c6)))) := by
                        rw [opts_set]
                        have h := HQ6.out
                        exact_mod_cast h
                      clear ht
                      simp only [Option.isSome_none, Option.getD_none] at r0 r1
                      go_wp2_with fail
                      go_roundw
                      case rel => exact ⟨s + 1, _, by go_num, by omega, HQ7, HL7, HRW7⟩
                      case measure => simp [intOf]; omega
                    | some old =>
                      have hold : WIn x2 old A2 := by
                        refine ⟨?_, RdT.rd hw2⟩
                        have h1 := HPB2.out.1.1
                        have h2 := HF.out.len_le old h1.1
                        have h3 := h1.2
                        omega
                      have c54 := smaller_quiet A6 A2 c6 c2 lg old x2 HWIN.out hold
                      simp only [Option.isSome_some, Option.getD_some] at r0 r1
                      rcases hsm : smB lg old with _ | _
                      · rw [hsm] at c54
                        have C54 := Lib.hid c54
                        have HQ7 : Hid (RowP d (CP d cs ((LL.length : Nat) : Int) x ((s + 1 : Nat) : Int)) (opts R)) := by
                          have h := HQ6.out
                          simp only [hsm, Bool.false_eq_true, if_false] at h
                          exact_mod_cast h
                        clear c54 hsm hold
                        go_wp2_with fail
                        refine C54.out.mono ?_
                        rintro e x3 ⟨rfl, m, rfl⟩
                        go_wp2_with fail
                        go_roundw
                        case rel => exact ⟨s + 1, R, by go_num, by omega, HQ7, HL6.out.drewN m, HRW6.out.up (bel_drewN (Below.refl _ _) m)⟩
                        case measure => simp [intOf]; omega
                      · rw [hsm] at c54
                        have C54 := Lib.hid c54
                        have HQ7 : Hid (RowP d (CP d cs ((LL.length : Nat) : Int) x ((s + 1 : Nat) : Int)) (opts (R.set tq.toNat (some lg, A6, c6)))) := by
                          rw [opts_set]
                          have h := HQ6.out
                          simp only [hsm, if_true] at h
                          exact_mod_cast h
                        clear c54 hsm hold
                        go_wp2_with fail
                        refine C54.out.mono ?_
                        rintro e x3 ⟨rfl, m, rfl⟩
                        have HL6' := Lib.hid (HL6.out.drewN m)
                        have HRW6' := Lib.hid (HRW6.out.up (bel_drewN (Below.refl _ _) m))
                        have HWD' : Hid (WordIn (x2.drewN m) (some lg, A6, c6)) := HWD.out.up (bel_drewN (Below.refl _ _) m)
                        have ht := touch_two (x2.drewN m) gr tq.toNat (.bool true) (.slice A6 lg.length c6)
                        have HL7 := Lib.hid (HL6'.out.touch ht HRW6'.out.lo HRW6'.out.typ HRW6'.out.far)
                        have HRW7 := Lib.hid (HRW6'.out.set_ tq.toNat (some lg, A6, c6) HWD'.out)
                        clear ht HL6' HRW6' HWD'
                        go_wp2_with fail
                        go_roundw
                        case rel => exact ⟨s + 1, _, by go_num, by omega, HQ7, HL7, HRW7⟩
                        case measure => simp [intOf]; omega
                · obtain rfl : s = d.A.length := by omega
                  have HQ2 : Hid (RQ d cs ((LL.length : Nat) : Int) ((x + 1 : Nat) : Int) (opts R)) := by
                    have h := RQ.of (row_next HF.out HQ.out) (by omega)
                    exact_mod_cast h
                  go_wp2_with fail
                  go_roundw
                  case rel => exact ⟨x + 1, R, by go_num, by omega, HQ2, HL, HRW⟩
                  case measure => simp [intOf]; omega
          · have hxe : (x : Int) = d.K := by omega
            have HDONE : Hid (RowP d (CW d cs ((LL.length : Nat) : Int)) (opts R)) := by
              have h := HQ.out
              rw [hxe] at h
              exact h.done (by omega)
            clear hxe HQ
            have hbx := HL.out.box
            go_wp2_with fail
            have HB0 := Lib.hid (Blk.new wr 46 #[.bool false, .slice none 0 0])
            have HL0 := Lib.hid (HL.out.alloc (.cells #[.bool false, .slice none 0 0] 46))
            have HR0 := Lib.hid (HRW.out.up (bel_new wr (.cells #[.bool false, .slice none 0 0] 46)))
            have hgrl : gr < wr.heap.size := (HRW.out.row.lt gr rfl).2
            have HFAR : Hid (∀ (t : Nat) (u : Value) (k : Nat), vsL[t]? = some u → u.ownBlock = some k → k ≠ wr.heap.size) := fun t u k hu hk e => by
              have ht : t < LL.length := by have := (List.getElem?_eq_some_iff.1 hu).1; rw [HL.out.nest.vlen] at this; exact this
              obtain ⟨A', c', h1, h2⟩ := HL.out.nest.inner t _ (List.getElem?_eq_getElem ht)
              rw [hu] at h1
              rw [Option.some.inj h1] at hk
              have := (h2.lt k hk).2
              omega
            have hglo : w.heap.size + 1 < wr.heap.size := HL.out.res.lt
            have HW0 : Hid (WordIn (wr.alloc (.cells #[.bool false, .slice none 0 0] 46)) (none, none, 0)) := RdT.nil_
            have HB1 : Hid (BestTo d (opts R) 0 none) := bestTo_start _
            clear hbx a0 a1 a2 a3 hltb HL HRW
            generalize wr.heap.size = gb at HB0 HFAR hgrl hglo ⊢
            generalize wr.alloc (.cells #[.bool false, .slice none 0 0] 46) = W5 at *
            go_loopw [17] (fun sI wr => ∃ (s : Nat) (o : Option (List Int)) (A : Option Addr) (c : Nat), sI = .int .i64 s ∧ s ≤ d.A.length ∧ Hid (Blk wr gb 46 #[.bool o.isSome, .slice A (o.getD []).length c]) ∧ Hid (WordIn wr (o, A, c)) ∧ Hid (BestTo d (opts R) s o) ∧ Hid (∀ W, o = some W → W.length ≤ 61) ∧
                Hid (LW w wr d An cn Aa ca AL cl LL vsL) ∧ Hid (RW w wr gr d.A.length R vsL)) (fun sI _ => d.A.length - (intOf sI).toNat)
            case atStart => exact ⟨0, none, none, 0, rfl, Nat.zero_le _, HB0, HW0, HB1, (fun W h => by cases h), HL0, HR0⟩
            case round =>
              clear HB0 HW0 HB1 HL0 HR0
              obtain ⟨s, o, A, c, rfl, hsA, HB, HWD, HBT, HLEN, HL, HRW⟩ := hrel
              have b0 : wr.cell? ⟨gb, 0, none⟩ = some (.bool o.isSome) := by rw [HB.out.cell]; rfl
              have b1 : wr.cell? ⟨gb, 1, none⟩ = some (.slice A (o.getD []).length c) := by rw [HB.out.cell]; rfl
              have zb0 : wr.frozen? ⟨gb, 0, none⟩ = false := HB.out.frozen 0
              have zb1 : wr.frozen? ⟨gb, 1, none⟩ = false := HB.out.frozen 1
              have hgbl := HB.out.lt
              by_cases hsl : s < d.A.length
              · have hbx := HL.out.box
                obtain ⟨⟨a0, a1, a2, a3⟩, _⟩ := blk4 hbx
                have hltb := hbx.lt
                clear hbx
                obtain ⟨ga, oa, va, rfl, hga, hca, hva⟩ := (HD.out.ra.below HL.out.bel).bool_ix (i := (s : Int)) (by omega) (by omega)
                rw [Int.toNat_natCast] at hca
                have hva' : d.acc (s : Int) = va := hva
                have hltga : ga < wr.heap.size := Nat.lt_of_lt_of_le hga HL.out.bel.size
                obtain ⟨o2, A2, c2, hR2, r0, r1, hw2⟩ := HRW.out.at_ (s := s) (by rw [HRW.out.rlen]; omega)
                have hro : rowAt (opts R) (s : Int) = o2 := opts_at (p := (o2, A2, c2)) (by rw [Int.toNat_natCast]; exact hR2)
                have hgrl2 : gr < wr.heap.size := (HRW.out.row.lt gr rfl).2
                have hpb := HDONE.out.2 (s : Int) ⟨by omega, by omega⟩
                rw [hro] at hpb
                have HPB := Lib.hid hpb; have HRO := Lib.hid hro; have HVA := Lib.hid hva'; have HW2 := Lib.hid hw2; have HR2 := Lib.hid hR2
                clear hva hva' hro hpb hw2 hR2
                have hne1 : ¬ gr = gb := by omega
                have hne2 : ¬ gb = gr := by omega
                cases va with
                | false =>
                  have HBT2 : Hid (BestTo d (opts R) ((s + 1 : Nat) : Int) o) := by
                    have h := bestTo_pass HBT.out (fun h => by rw [HVA.out] at h; cases h)
                    exact_mod_cast h
                  go_wp2_with fail
                  go_quiet (fail)
                  have HB' : Hid (Blk (wr.drewN nq) gb 46 #[.bool o.isSome, .slice A (o.getD []).length c]) := HB.out.drewN nq
                  have HWD' : Hid (WordIn (wr.drewN nq) (o, A, c)) := HWD.out.up (bel_drewN (Below.refl _ _) nq)
                  have HL' := Lib.hid (HL.out.drewN nq)
                  have HRW' := Lib.hid (HRW.out.up (bel_drewN (Below.refl _ _) nq))
                  go_wp2_with fail
                  refine ⟨⟨s + 1, o, A, c, by go_num, by omega, HB', HWD', HBT2, HLEN, HL', HRW'⟩, by simp [intOf]; omega⟩
                | true =>
                  cases o2 with
                  | none =>
                    have HBT2 : Hid (BestTo d (opts R) ((s + 1 : Nat) : Int) o) := by
                      have h := bestTo_pass HBT.out (fun _ => HRO.out)
                      exact_mod_cast h
                    simp only [Option.isSome_none, Option.getD_none] at r0 r1
                    go_wp2_with fail
                    go_quiet (fail)
                    have HB' : Hid (Blk (wr.drewN nq) gb 46 #[.bool o.isSome, .slice A (o.getD []).length c]) := HB.out.drewN nq
                    have HWD' : Hid (WordIn (wr.drewN nq) (o, A, c)) := HWD.out.up (bel_drewN (Below.refl _ _) nq)
                    have HL' := Lib.hid (HL.out.drewN nq)
                    have HRW' := Lib.hid (HRW.out.up (bel_drewN (Below.refl _ _) nq))
                    go_wp2_with fail
                    refine ⟨⟨s + 1, o, A, c, by go_num, by omega, HB', HWD', HBT2, HLEN, HL', HRW'⟩, by simp [intOf]; omega⟩
                  | some V =>
                    have hVl : V.length ≤ 61 := by
                      have h1 := HPB.out.1
                      have h2 := HF.out.len_le V h1.1
                      have h3 := h1.2
                      omega
                    have HVL : Hid (∀ W, some V = some W → W.length ≤ 61) := fun W h => by cases h; exact hVl
                    simp only [Option.isSome_some, Option.getD_some] at r0 r1
                    cases o with
                    | none =>
                      have HBT2 : Hid (BestTo d (opts R) ((s + 1 : Nat) : Int) (some V)) := by
                        have h := bestTo_new HBT.out (by omega) HVA.out HRO.out (fun W h => by cases h)
                        exact_mod_cast h
                      simp only [Option.isSome_none, Option.getD_none] at b0 b1
                      go_wp2_with fail
                      go_quiet (fail)
                      have HT7 := Lib.hid ((HB.out.drewN nq).two (.bool true) (.slice A2 V.length c2))
                      have HL' := Lib.hid (HL.out.drewN nq)
                      have HRW' := Lib.hid (HRW.out.up (bel_drewN (Below.refl _ _) nq))
                      have HL7 := Lib.hid (HL'.out.touch HT7.out.2 (by omega) ⟨_, HB.out⟩ HFAR.out)
                      have HRW7 := Lib.hid (HRW'.out.other HT7.out.2 hne1 ⟨_, HB.out⟩)
                      have HWD7 : Hid (WordIn (((wr.drewN nq).setCell ⟨gb, 0, none⟩ (.bool true)).setCell ⟨gb, 1, none⟩ (.slice A2 V.length c2)) (some V, A2, c2)) := (RdT.up HW2.out (bel_drewN (Below.refl _ _) nq)).touch HT7.out.2 (fun k cur hk e => by
                        subst e
                        have h := HB.out
                        unfold Blk at h
                        have hk' : wr.heap[k]? = some (.cells cur 3 (0, 0)) := hk
                        rw [hk'] at h
                        injection h with h
                        injection h with _ h
                        exact absurd h (by decide))
                      go_wp2_with fail
                      go_roundw
                      case rel => exact ⟨s + 1, some V, A2, c2, by go_num, by omega, HT7.out.1, HWD7, HBT2, HVL, HL7, HRW7⟩
                      case measure => simp [intOf]; omega
                    | some W =>
                      simp only [Option.isSome_some, Option.getD_some] at b0 b1
                      have c54 := fun (n : Nat) => smaller_quiet A2 A c2 c V W (wr.drewN n) ⟨by omega, (RdT.up HW2.out (bel_drewN (Below.refl _ _) n)).rd⟩ ⟨by have := HLEN.out W rfl; omega, (RdT.up HWD.out (bel_drewN (Below.refl _ _) n)).rd⟩
                      rcases hsm : smB V W with _ | _
                      · have HBT2 : Hid (BestTo d (opts R) ((s + 1 : Nat) : Int) (some W)) := by
                          have h := bestTo_keep HF.out HDONE.out HBT.out ⟨by omega, by omega⟩ HRO.out hsm
                          exact_mod_cast h
                        rw [hsm] at c54
                        have C54 := Lib.hid c54
                        clear c54 hsm
                        go_wp2_with fail
                        go_quiet (first | (go_at_call 54; exact Calls.quiet_of (C54.out _)))
                        have HB' : Hid (Blk (wr.drewN nq) gb 46 #[.bool true, .slice A W.length c]) := HB.out.drewN nq
                        have HWD' : Hid (WordIn (wr.drewN nq) (some W, A, c)) := HWD.out.up (bel_drewN (Below.refl _ _) nq)
                        have HL' := Lib.hid (HL.out.drewN nq)
                        have HRW' := Lib.hid (HRW.out.up (bel_drewN (Below.refl _ _) nq))
                        go_wp2_with fail
                        refine ⟨⟨s + 1, some W, A, c, by go_num, by omega, HB', HWD', HBT2, HLEN, HL', HRW'⟩, by simp [intOf]; omega⟩
                      · have HBT2 : Hid (BestTo d (opts R) ((s + 1 : Nat) : Int) (some V)) := by
                          have h := bestTo_new HBT.out (by omega) HVA.out HRO.out (fun W' h => by cases h; exact hsm)
                          exact_mod_cast h
                        rw [hsm] at c54
                        have C54 := Lib.hid c54
                        clear c54 hsm
                        go_wp2_with fail
                        go_quiet (first | (go_at_call 54; exact Calls.quiet_of (C54.out _)))
                        have HT7 := Lib.hid ((HB.out.drewN nq).two (.bool true) (.slice A2 V.length c2))
                        have HL' := Lib.hid (HL.out.drewN nq)
                        have HRW' := Lib.hid (HRW.out.up (bel_drewN (Below.refl _ _) nq))
                        have HL7 := Lib.hid (HL'.out.touch HT7.out.2 (by omega) ⟨_, HB.out⟩ HFAR.out)
                        have HRW7 := Lib.hid (HRW'.out.other HT7.out.2 hne1 ⟨_, HB.out⟩)
                        have HWD7 : Hid (WordIn (((wr.drewN nq).setCell ⟨gb, 0, none⟩ (.bool true)).setCell ⟨gb, 1, none⟩ (.slice A2 V.length c2)) (some V, A2, c2)) := (RdT.up HW2.out (bel_drewN (Below.refl _ _) nq)).touch HT7.out.2 (fun k cur hk e => by
                          subst e
                          have h := HB.out
                          unfold Blk at h
                          have hk' : wr.heap[k]? = some (.cells cur 3 (0, 0)) := hk
                          rw [hk'] at h
                          injection h with h
                          injection h with _ h
                          exact absurd h (by decide))
                        go_wp2_with fail
                        go_roundw
                        case rel => exact ⟨s + 1, some V, A2, c2, by go_num, by omega, HT7.out.1, HWD7, HBT2, HVL, HL7, HRW7⟩
                        case measure => simp [intOf]; omega
              · obtain rfl : s = d.A.length := by omega
                cases o with
                | none =>
                  simp only [Option.isSome_none, Option.getD_none] at b0 b1
                  have HNB2 : Hid (NoneBelow d cs (((LL ++ [R]).length : Nat) : Int)) := by
                    have h := none_next HF.out HDONE.out HNB.out HBT.out
                    have e : (((LL ++ [R]).length : Nat) : Int) = ((LL.length : Nat) : Int) + 1 := by simp
                    rw [Hid, e]; exact h
                  have HRR2 : Hid (∀ (i : Nat) (R' : List BV), (LL ++ [R])[i]? = some R' → RowP d (CW d cs (i : Int)) (opts R')) := fun i R' hi => by
                    by_cases hil : i < LL.length
                    · rw [List.getElem?_append_left hil] at hi
                      exact HRR.out i R' hi
                    · have e : i = LL.length := by
                        have := (List.getElem?_eq_some_iff.1 hi).1
                        simp at this
                        omega
                      subst e
                      rw [List.getElem?_append_right (Nat.le_refl _)] at hi
                      simp only [Nat.sub_self, List.getElem?_cons_zero] at hi
                      obtain rfl := Option.some.inj hi
                      exact HDONE.out
                  have HOU := Lib.hid ((HL.out.alloc (.cells #[.slice (some ⟨gr, 0, none⟩) d.A.length d.A.length] 93)).nest.outer)
                  go_wp2_with (at_builtin; go_must (refine wpList_append_own_at _ rfl (.tmp 145) (.tmp 147) 92 rfl w.heap.size 93 i93 (.slice none 0 0) 1 24 Try.underlying92 HI9.out HZ9.out HS9.out HBY9.out rfl (by omega) (.slice AL LL.length cl) LL.length vsL rfl HOU.out ⟨wr.heap.size, 0, none⟩ 1 1 [.slice (some ⟨gr, 0, none⟩) d.A.length d.A.length] rfl rfl (World.news_of_block (cs := #[.slice (some ⟨gr, 0, none⟩) d.A.length d.A.length]) (t := 93) (fr := (0, 0)) (heap_alloc_new wr _)) ?c2 ?c3 ?c4 ?c5 ?_))
                  case c2 => intro u hu; rw [List.mem_singleton.1 hu]; rfl
                  case c3 => unfold maxLen; omega
                  case c4 => omega
                  case c5 => have := HL.out.bel.size; simp; omega
                  intro v1 w8 hown1 hgr1 _ hat1
                  obtain ⟨AL', cl', rfl⟩ := own_form hown1
                  have HL8 := Lib.hid ((HL.out.alloc (.cells #[.slice (some ⟨gr, 0, none⟩) d.A.length d.A.length] 93)).push (HRW.out.up (bel_new wr (.cells #[.slice (some ⟨gr, 0, none⟩) d.A.length d.A.length] 93))) hown1 hgr1)
                  have HLN : Hid ((LL ++ [R]).length = LL.length + 1) := by show _ = _; simp
                  clear hown1 hgr1 hat1
                  go_wp2_with fail
                  go_roundw
                  case rel => exact ⟨LL ++ [R], _, AL', cl', by rw [HLN.out], by rw [HLN.out]; go_num, by rw [HLN.out]; omega, HL8, HRR2, HNB2⟩
                  case measure => simp [intOf]; omega
                | some W =>
                  simp only [Option.isSome_some, Option.getD_some] at b0 b1
                  have HBF := Lib.hid (best_found HF.out HDONE.out HNB.out HBT.out)
                  have HLP : Hid (LeastP d cs most (some W)) := ⟨HBF.out.1, by rw [HBF.out.2]; exact hcm⟩
                  have rs0 : wr.cell? ⟨w.heap.size + 1, 0, none⟩ = some (.bool false) := by rw [HL.out.res.cell]; rfl
                  have rs1 : wr.cell? ⟨w.heap.size + 1, 1, none⟩ = some (.slice none 0 0) := by rw [HL.out.res.cell]; rfl
                  have zs0 : wr.frozen? ⟨w.heap.size + 1, 0, none⟩ = false := HL.out.res.frozen 0
                  have zs1 : wr.frozen? ⟨w.heap.size + 1, 1, none⟩ = false := HL.out.res.frozen 1
                  have hsr := HL.out.res.lt
                  have hnb : ¬ gb = w.heap.size + 1 := by omega
                  have hnb2 : ¬ w.heap.size + 1 = gb := by omega
                  have hend := (HL.out.res.two (.bool true) (.slice A W.length c)).2
                  have hwe := (RdT.touch HWD.out hend (fun k cur hk e => by
                    subst e
                    have h := HL.out.res
                    unfold Blk at h
                    rw [hk] at h
                    injection h with h
                    injection h with _ h
                    exact absurd h (by decide))).rd
                  have HWE := Lib.hid hwe
                  have HEND := Lib.hid (HL.out.bel.trans (hend.toBelow HL.out.bel.size fun k hk e => by omega))
                  clear hend hwe
                  go_wp2_with fail
                  refine bodyPost_ret (v := .agg #[.bool true, .slice A W.length c]) ?_ rfl ?_
                  · simp [results, Try.results50, go_sem, rs0, rs1, b0, b1]
                  · exact ⟨some W, A, c, rfl, HLP.out, HWE.out, HEND.out⟩
    · have HNO : Hid (LeastP d cs most none) := fun u hu => by have := HNB.out u hu; omega
      have rs0 : wr.cell? ⟨w.heap.size + 1, 0, none⟩ = some (.bool false) := by rw [HL.out.res.cell]; rfl
      have rs1 : wr.cell? ⟨w.heap.size + 1, 1, none⟩ = some (.slice none 0 0) := by rw [HL.out.res.cell]; rfl
      have zs0 : wr.frozen? ⟨w.heap.size + 1, 0, none⟩ = false := HL.out.res.frozen 0
      have zs1 : wr.frozen? ⟨w.heap.size + 1, 1, none⟩ = false := HL.out.res.frozen 1
      have hsr := HL.out.res.lt
      go_wp2_with fail
      refine bodyPost_ret (v := .agg #[.bool false, .slice none 0 0]) ?_ rfl ?_
      · simp [results, Try.results50, go_sem, rs0, rs1]
      · exact ⟨none, none, 0, rfl, HNO.out, Rd.nil_, Below.setCell (Below.setCell HL.out.bel (by show w.heap.size ≤ w.heap.size + 1; omega) _) (by show w.heap.size ≤ w.heap.size + 1; omega) _⟩
end Go.Proofs.Ytmpcoclgcldclaa
