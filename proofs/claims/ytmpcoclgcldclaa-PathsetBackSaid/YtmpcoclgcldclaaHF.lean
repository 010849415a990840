/- The walk of short.Least. -/
import Derived.Test.YtmpcoclgcldclaaHE
import Derived.BigQuiet
namespace Go.Proofs.Ytmpcoclgcldclaa
open Go.RowKit
attribute [local go_sem ↓] Go.wp_at_zero Go.wp_at_succ

def LeastNo (w : World) (e : Ending) (w' : World) : Prop := e = .returned (.tuple #[.slice none 0 0, .bool false, .int .i64 151]) ∧ Below w.heap.size w w'
set_option maxHeartbeats 4000000 in
set_option maxRecDepth 100000 in
theorem least_no1 (d : D) (cs : List Int) (most : Int) (An Aa Ac : Option Addr) (cn ca cc : Nat) (w : World) (hd : DIn w d An Aa) (hr : d.right = false) :
    Calls Try.prog 48 #[dfaV d.K d.S An d.N.length cn Aa d.A.length ca, .slice Ac cs.length cc, .int .i64 most] w (LeastNo w) := by
  have c27 := fun (W : World) (hb : Below w.heap.size w W) => right_c (hd.up hb) cn ca
  rw [hr] at c27
  have C27 := Lib.hid c27
  clear c27 hd hr
  have HW := Lib.hid (bel_new w (.cells #[.int .i64 d.K, .int .i64 d.S, .slice An d.N.length cn, .slice Aa d.A.length ca] 25))
  go_enter Try.func48, Try.ntmps48
  go_wp2_with fail
  refine (C27.out _ HW.out).mono ?_
  rintro e w1 ⟨rfl, hb1⟩
  go_wp2_with fail
  go_returns
  exact ⟨rfl, bel_step HW.out hb1⟩
set_option maxHeartbeats 4000000 in
set_option maxRecDepth 100000 in
theorem least_no2 (d : D) (cs : List Int) (most : Int) (An Aa Ac : Option Addr) (cn ca cc : Nat) (w : World) (hd : DIn w d An Aa) (hr : d.right = true) (hne : ((cs.length : Int) != d.K) = true) :
    Calls Try.prog 48 #[dfaV d.K d.S An d.N.length cn Aa d.A.length ca, .slice Ac cs.length cc, .int .i64 most] w (LeastNo w) := by
  have c27 := fun (W : World) (hb : Below w.heap.size w W) => right_c (hd.up hb) cn ca
  rw [hr] at c27
  have C27 := Lib.hid c27
  clear c27 hr
  have Hbox := Lib.hid (HasD.new hd cn ca).box
  have HW := Lib.hid (bel_new w (.cells #[.int .i64 d.K, .int .i64 d.S, .slice An d.N.length cn, .slice Aa d.A.length ca] 25))
  clear hd
  go_enter Try.func48, Try.ntmps48
  go_wp2_with fail
  refine (C27.out _ HW.out).mono ?_
  rintro e w1 ⟨rfl, hb1⟩
  have HB1 := Lib.hid (blk_below Hbox.out hb1)
  obtain ⟨⟨a0, a1, a2, a3⟩, _⟩ := blk4 HB1.out
  go_wp2_with fail
  go_returns
  exact ⟨rfl, bel_step HW.out hb1⟩
set_option maxHeartbeats 4000000 in
set_option maxRecDepth 100000 in
theorem least_no3 (d : D) (cs : List Int) (most : Int) (An Aa Ac : Option Addr) (cn ca cc : Nat) (w : World) (hd : DIn w d An Aa) (hc : WIn w cs Ac) (hr : d.right = true) (hne : ((cs.length : Int) != d.K) = false) (hf : fineB cs = false) :
    Calls Try.prog 48 #[dfaV d.K d.S An d.N.length cn Aa d.A.length ca, .slice Ac cs.length cc, .int .i64 most] w (LeastNo w) := by
  have c27 := fun (W : World) (hb : Below w.heap.size w W) => right_c (hd.up hb) cn ca
  rw [hr] at c27
  have c90 := fun (W : World) (hb : Below w.heap.size w W) => fine_any Ac cc cs W (hc.up hb).l (hc.up hb).r
  rw [hf] at c90
  have C27 := Lib.hid c27; have C90 := Lib.hid c90
  clear c27 c90 hr hf
  have Hbox := Lib.hid (HasD.new hd cn ca).box
  have HW := Lib.hid (bel_new w (.cells #[.int .i64 d.K, .int .i64 d.S, .slice An d.N.length cn, .slice Aa d.A.length ca] 25))
  clear hd hc
  go_enter Try.func48, Try.ntmps48
  go_wp2_with fail
  refine (C27.out _ HW.out).mono ?_
  rintro e w1 ⟨rfl, hb1⟩
  have HB1 := Lib.hid (blk_below Hbox.out hb1)
  replace HW := Lib.hid (bel_step HW.out hb1)
  obtain ⟨⟨a0, a1, a2, a3⟩, _⟩ := blk4 HB1.out
  clear hb1
  go_wp2_with fail
  refine (C90.out _ HW.out).mono ?_
  rintro e w2 ⟨rfl, rfl⟩
  go_wp2_with fail
  go_returns
  exact ⟨rfl, HW.out⟩
/-- what the cheapest word's search gives -/
def LeastR (d : D) (cs : List Int) (most : Int) (w : World) (e : Ending) (w' : World) : Prop :=
  ∃ (o : Option (List Int)) (A : Option Addr) (c : Nat), e = .returned (.tuple #[.slice A (o.getD []).length c, .bool o.isSome, .int .i64 0]) ∧ LeastP d cs most o ∧ (o = none → (∀ u, ¬ Told d d.S u) ∨ most < 1048576000) ∧
    (∀ W, o = some W → W.length < d.A.length) ∧ Rd w' w'.heap.size A ((o.getD []).map (Value.int .i64)) ∧ Below w.heap.size w w'

set_option maxHeartbeats 16000000 in
set_option maxRecDepth 100000 in
theorem least_yes (d : D) (cs : List Int) (most : Int) (An Aa Ac : Option Addr) (cn ca cc : Nat) (w : World) (hd : DIn w d An Aa) (hc : WIn w cs Ac) (hf : Fit d cs) (hsz : d.A.length ≤ 950) :
    Calls Try.prog 48 #[dfaV d.K d.S An d.N.length cn Aa d.A.length ca, .slice Ac cs.length cc, .int .i64 most] w (LeastR d cs most w) := by
  have c27 := fun (W : World) (hb : Below w.heap.size w W) => right_c (hd.up hb) cn ca
  rw [D.right_true.2 hf.ok] at c27
  have c90 := fun (W : World) (hb : Below w.heap.size w W) => fine_any Ac cc cs W (hc.up hb).l (hc.up hb).r
  rw [hf.fine] at c90
  have c91 := fun (W : World) (hb : Below w.heap.size w W) => left_any d cs An Aa Ac cn ca cc W (hd.up hb) (hc.up hb) hf hsz
  have hne : ((cs.length : Int) != d.K) = false := by rw [hf.len]; simp
  have C27 := Lib.hid c27; have C90 := Lib.hid c90; have C91 := Lib.hid c91; have HF := Lib.hid hf
  clear c27 c90 c91 hf
  have Hbox := Lib.hid (HasD.new hd cn ca).box
  have HD := Lib.hid hd; have HC := Lib.hid hc
  have HW := Lib.hid (bel_new w (.cells #[.int .i64 d.K, .int .i64 d.S, .slice An d.N.length cn, .slice Aa d.A.length ca] 25))
  clear hd hc
  go_enter Try.func48, Try.ntmps48
  go_wp2_with fail
  refine (C27.out _ HW.out).mono ?_
  rintro e w1 ⟨rfl, hb1⟩
  replace Hbox := Lib.hid (blk_below Hbox.out hb1)
  replace HW := Lib.hid (bel_step HW.out hb1)
  obtain ⟨⟨a0, a1, a2, a3⟩, _⟩ := blk4 Hbox.out
  clear hb1
  go_wp2_with fail
  refine (C90.out _ HW.out).mono ?_
  rintro e w2 ⟨rfl, rfl⟩
  have hlt0 : w.heap.size < w1.heap.size := Hbox.out.lt
  go_wp2_with fail
  refine (C91.out _ HW.out).mono ?_
  rintro e w3 ⟨AO, co, out, rfl, hrow, hLO, hBD, hb3⟩
  have hA1 : 1 ≤ d.A.length := HF.out.ok.2.2.1
  obtain ⟨go, capo, hAO, _, _⟩ := hrow.form hA1
  obtain rfl : AO = some ⟨go, 0, none⟩ := by injection hAO
  have hgo3 : w1.heap.size ≤ go := (hrow.lt go rfl).1
  replace Hbox := Lib.hid (blk_below Hbox.out hb3)
  have HWS := HW.out.size
  have HR := Lib.hid (hrow.mono HWS)
  replace HW := Lib.hid (bel_step HW.out hb3)
  have HLO := Lib.hid hLO; have HBD := Lib.hid hBD
  clear hrow hLO hBD hb3 hAO a0 a1 a2 a3 HWS hlt0
  obtain ⟨⟨a0, a1, a2, a3⟩, _⟩ := blk4 Hbox.out
  have hlt0 : w.heap.size < w3.heap.size := Hbox.out.lt
  have hS1 : 0 ≤ d.S := HF.out.ok.2.2.2.2.2.1
  have hS2 : d.S < d.A.length := HF.out.ok.2.2.2.2.2.2.1
  have hcell : ∀ (W : World) (s : Int), 0 ≤ s ∧ s < d.A.length → W.ownsRow w.heap.size 3 1 (.slice (some ⟨go, 0, none⟩) d.A.length co) d.A.length (out.map (Value.int .i64)) → W.cell? ⟨go, s.toNat, none⟩ = some (.int .i64 (lf out s)) := fun W s hs hr => by
    have hl : s.toNat < out.length := by rw [HLO.out.len]; omega
    rw [hr.cellAt _ (by omega), List.getElem?_map, lf_get hl]
    rfl
  have HCELL := Lib.hid hcell
  clear hcell
  have q0 := HCELL.out w3 d.S ⟨hS1, hS2⟩ HR.out
  have hgol : go < w3.heap.size := (HR.out.lt go rfl).2
  by_cases h1 : most < lf out d.S
  · have hno : Hid (LeastP d cs most none) := fun u hu => by have := (HLO.out.all u d.S ⟨hS1, hS2⟩ hu).2; omega
    have hno2 : Hid ((∀ u, ¬ Told d d.S u) ∨ most < 1048576000) := by
      by_cases hm : lf out d.S = mxI
      · exact .inl fun u hu => (HLO.out.all u d.S ⟨hS1, hS2⟩ hu).1 hm
      · have := HBD.out d.S ⟨hS1, hS2⟩ hm
        exact .inr (by omega)
    go_wp2_with fail
    go_returns
    exact ⟨none, none, 0, rfl, hno.out, fun _ => hno2.out, (fun W h => by cases h), Rd.nil_, HW.out⟩
  · by_cases h2 : lf out d.S = 9223372036854775807
    · have hno : Hid (∀ u, ¬ Told d d.S u) := fun u hu => (HLO.out.all u d.S ⟨hS1, hS2⟩ hu).1 h2
      have h2' : (lf out d.S == 9223372036854775807) = true := by simpa using h2
      go_wp2_with fail
      go_returns
      exact ⟨none, none, 0, rfl, fun u hu => absurd hu (hno.out u), fun _ => .inl hno.out, (fun W h => by cases h), Rd.nil_, HW.out⟩
    · have h2' : (lf out d.S == 9223372036854775807) = false := by simpa using h2
      have HP0 := Lib.hid (Path.start (d := d) (cs := cs) (out := out) h2)
      have HML : Hid (lf out d.S ≤ most) := by show _ ≤ _; omega
      clear h1 h2
      have HO0 : Hid (w3.ownsRow w.heap.size 3 1 (.slice none (List.length ([] : List Int)) 0) (List.length ([] : List Int)) (([] : List Int).map (Value.int .i64))) := World.ownsRow_nil _ _ _ _
      have HN0 : Hid ((Value.slice none (List.length ([] : List Int)) 0).ownBlock ≠ some go) := fun e => by cases e
      go_wp2_with fail
      clear a0 a1 a2 a3 q0 hgol hlt0
      go_loopg [10, 11, 12, 13, 56] (lf out d.S).toNat (fun gk o a _ _ _ wr => ∃ (W : List Int) (s : Int) (vis : List Int) (A : Option Addr) (c : Nat), o = .slice A W.length c ∧ a = .int .i64 s ∧ gk = (lf out s).toNat ∧ Hid (Path d cs out W s vis) ∧ Hid (BlkD wr w.heap.size d An cn Aa ca) ∧
          Hid (wr.ownsRow w.heap.size 3 1 (.slice (some ⟨go, 0, none⟩) d.A.length co) d.A.length (out.map (Value.int .i64))) ∧ Hid (wr.ownsRow w.heap.size 3 1 (.slice A W.length c) W.length (W.map (Value.int .i64))) ∧ Hid ((Value.slice A W.length c).ownBlock ≠ some go) ∧ Hid (Below w.heap.size w wr))
      case atStart => exact ⟨[], d.S, [], none, 0, rfl, rfl, rfl, HP0, Hbox, HR, HO0, HN0, HW⟩
      case round =>
        clear HO0 HN0 HP0 Hbox HR HW
        obtain ⟨W, s, vis, A, c, rfl, rfl, rfl, HP, Hbox, HR, HO, HN, HW⟩ := hrel
        obtain ⟨s0, s1⟩ := HP.out.lt HF.out
        obtain ⟨⟨a0, a1, a2, a3⟩, _⟩ := blk4 Hbox.out
        have hlt0 : w.heap.size < wr.heap.size := Hbox.out.lt
        have q0 := HCELL.out wr s ⟨s0, s1⟩ HR.out
        have hgol : go < wr.heap.size := (HR.out.lt go rfl).2
        by_cases hpos : 0 < lf out s
        · have hK1 : 1 ≤ d.K := HF.out.ok.1
          have hK2 : d.K ≤ 512 := HF.out.ok.2.1
          have hbd0 := HBD.out s ⟨s0, s1⟩ HP.out.fin
          go_wp2_with fail
          clear a0 a1 a2 a3 q0 hgol hlt0
          go_loopw [10, 11, 12, 13, 56] (fun o a _ _ i W2 => ∃ j : Nat, o = .slice A W.length c ∧ a = .int .i64 s ∧ i = .int .i64 j ∧ (j : Int) ≤ d.K ∧ Hid (∀ y : Int, 0 ≤ y ∧ y < j → ¬ goodX d cs out s y) ∧ Hid (BlkD W2 w.heap.size d An cn Aa ca) ∧
              Hid (W2.ownsRow w.heap.size 3 1 (.slice (some ⟨go, 0, none⟩) d.A.length co) d.A.length (out.map (Value.int .i64))) ∧ Hid (W2.ownsRow w.heap.size 3 1 (.slice A W.length c) W.length (W.map (Value.int .i64))) ∧ Hid (Below w.heap.size w W2)) (fun _ _ _ _ i _ => (d.K - intOf i).toNat)
          case atStart => exact ⟨0, rfl, rfl, rfl, by omega, (fun y hy => by omega), Hbox, HR, HO, HW⟩
          case round =>
            clear Hbox HR HO HW
            obtain ⟨j, rfl, rfl, rfl, hj, HG, Hbox, HR, HO, HW⟩ := hrel
            by_cases hjl : (j : Int) < d.K
            · obtain ⟨⟨a0, a1, a2, a3⟩, _⟩ := blk4 Hbox.out
              have hmb := HF.out.ok.mul_bd (s := s) ⟨s0, s1⟩
              have hix := HF.out.ok.idx (s := s) (x := j) ⟨s0, s1⟩ ⟨by omega, hjl⟩
              obtain ⟨gn, on, tq, rfl, hgn, hcn, hto⟩ := (HD.out.rn.below HW.out).int_ix hix.1 hix.2
              have htr := HF.out.ok.step_lt (s := s) (x := j) ⟨s0, s1⟩ ⟨by omega, hjl⟩
              have hst : d.step s j = tq := hto
              rw [hst] at htr
              obtain ⟨t0, t1⟩ := htr
              obtain ⟨hm1, hm2⟩ := hmb
              obtain ⟨hi1, hi2⟩ := hix
              have v1 : IntKind.i64.wrap (s * d.K) = s * d.K := by rw [IntKind.wrap_i64]; omega
              have v2 : IntKind.i64.wrap (s * d.K + j) = s * d.K + j := by rw [IntKind.wrap_i64]; omega
              obtain ⟨gc, oc, cx, rfl, hgc, hcx, hcv⟩ := (HC.out.r.below HW.out).int_ix (i := (j : Int)) (by omega) (by rw [HF.out.len]; exact hjl)
              have hcst := HF.out.cst (x := (j : Int)) ⟨by omega, hjl⟩
              have hcv' : cst cs j = cx := hcv
              rw [hcv'] at hcst
              have q0 := HCELL.out _ s ⟨s0, s1⟩ HR.out
              have q1 := HCELL.out _ tq ⟨t0, t1⟩ HR.out
              have hgol := (HR.out.lt go rfl).2
              have hlt0 := Hbox.out.lt
              have hjlen : (j : Int) < cs.length := by rw [HF.out.len]; exact hjl
              have HST := Lib.hid hst; have HCV := Lib.hid hcv'
              have hsz0 := HW.out.size
              have hltc := Nat.lt_of_lt_of_le hgc hsz0
              have hltn := Nat.lt_of_lt_of_le hgn hsz0
              clear hto hst hcv hcv'
              rw [Int.toNat_natCast] at hcx
              by_cases hmx : lf out tq = mxI
              · have hd1 : decide (lf out tq < 9223372036854775807) = false := by rw [hmx]; decide
                have HG2 : Hid (∀ y : Int, 0 ≤ y ∧ y < ((j + 1 : Nat) : Int) → ¬ goodX d cs out s y) := fun y hy hg => by
                  by_cases e : y = j
                  · subst e
                    have := hg.1
                    rw [HST.out] at this
                    exact this hmx
                  · exact HG.out y (by omega) hg
                clear hmx
                go_wp2_with fail
                go_quiet (fail)
                go_wp2_with fail
                have HB5 : Hid (BlkD (wr.drewN nq) w.heap.size d (some ⟨gn, on, none⟩) cn Aa ca) := Hbox.out.drewN nq
                refine ⟨⟨j + 1, rfl, rfl, by go_num, by omega, HG2, HB5, HR, HO, bel_drewN HW.out nq⟩, by simp [intOf]; omega⟩
              · have hb := HBD.out tq ⟨t0, t1⟩ hmx
                have hn := HLO.out.nonneg HF.out ⟨t0, t1⟩ hmx
                have hd1 : decide (lf out tq < 9223372036854775807) = true := decide_eq_true (by omega)
                have HMX := Lib.hid hmx
                have v3 : IntKind.i64.wrap (lf out tq + cx) = lf out tq + cx := by rw [IntKind.wrap_i64]; omega
                clear hmx
                by_cases heq : lf out tq + cx = lf out s
                · have heq' : (lf out tq + cx == lf out s) = true := by simpa using heq
                  have HEQ := Lib.hid heq
                  have hgk : (lf out tq).toNat < (lf out s).toNat := by omega
                  have HPS := Lib.hid (HP.out.step (x := (j : Int)) HLO.out HF.out hpos ⟨by omega, hjl⟩ ⟨by rw [HST.out]; exact HMX.out, by rw [HST.out, HCV.out]; exact heq⟩ HG.out)
                  have HLW := Lib.hid (HP.out.vlen)
                  clear heq
                  go_wp2_with fail
                  go_quiet (fail)
                  generalize hW5 : wr.drewN nq = W5
                  have HB5 : Hid (BlkD W5 w.heap.size d (some ⟨gn, on, none⟩) cn Aa ca) := by rw [← hW5]; exact Hbox.out.drewN nq
                  have HR5 : Hid (W5.ownsRow w.heap.size 3 1 (.slice (some ⟨go, 0, none⟩) d.A.length co) d.A.length (out.map (Value.int .i64))) := by rw [← hW5]; exact HR.out
                  have HO5 : Hid (W5.ownsRow w.heap.size 3 1 (.slice A W.length c) W.length (W.map (Value.int .i64))) := by rw [← hW5]; exact HO.out
                  have HW5 : Hid (Below w.heap.size w W5) := by rw [← hW5]; exact bel_drewN HW.out nq
                  clear hW5 HR HO HW Hbox a0 a1 a2 a3 q0 q1 hcn hcx hgol hlt0 hltc hltn hsz0
                  obtain ⟨i3, hi, hz, hs, hb3⟩ := info_parts Try.info3
                  have HI := Lib.hid hi; have HZ := Lib.hid hz; have HS := Lib.hid hs; have HBY := Lib.hid hb3
                  clear hi hz hs hb3
                  have hWl : W.length ≤ 65536 := by
                    have h := (HP.out.vlen)
                    have h2 := nodup_lt d.A.length (vis.map Int.toNat) (by
                      rw [List.Nodup, List.pairwise_map]
                      refine List.Pairwise.imp_of_mem ?_ HP.out.vnodup
                      intro a b ha hb hne e
                      have := (HP.out.vis a ha).1
                      have := (HP.out.vis b hb).1
                      omega) (by
                      intro t ht
                      obtain ⟨a, ha, rfl⟩ := List.mem_map.1 ht
                      have := (HP.out.vis a ha).1
                      omega)
                    rw [List.length_map] at h2
                    omega
                  have HO6 := Lib.hid (HO5.out.alloc (.cells #[.int .i64 j] 3))
                  go_wp2_with (at_builtin; go_must (refine wpList_append_own_at _ rfl (.tmp 90) (.tmp 92) 22 rfl w.heap.size 3 i3 (.int .i64 0) 1 8 Try.underlying22 HI.out HZ.out HS.out HBY.out rfl (by omega) (.slice A W.length c) W.length (W.map (Value.int .i64)) rfl HO6.out ⟨W5.heap.size, 0, none⟩ 1 1 [.int .i64 j] rfl rfl (World.news_of_block (cs := #[.int .i64 j]) (t := 3) (fr := (0, 0)) (heap_alloc_new W5 _)) ?c2 ?c3 ?c4 ?c5 ?_))
                  case c2 => intro u hu; rw [List.mem_singleton.1 hu]; rfl
                  case c3 => unfold maxLen; omega
                  case c4 => omega
                  case c5 => have := HW5.out.size; simp; omega
                  intro v1 w8 hown1 hgr1 _ hat1
                  obtain ⟨A2, c2, rfl⟩ := own_form hown1
                  have HTT : Hid (Touch (fun k => (Value.slice A W.length c).ownBlock = some k) W5 w8) := ((Touch.refl _ W5).alloc _).grown hgr1 fun k hk _ => hk
                  have HLN : Hid ((W ++ [(j : Int)]).length = W.length + 1) := by show _ = _; simp
                  have HO8 : Hid (w8.ownsRow w.heap.size 3 1 (.slice A2 (W ++ [(j : Int)]).length c2) (W ++ [(j : Int)]).length ((W ++ [(j : Int)]).map (Value.int .i64))) := by
                    rw [List.map_append, List.length_append]; exact hown1
                  have HN8 : Hid ((Value.slice A2 (W ++ [(j : Int)]).length c2).ownBlock ≠ some go) := by
                    have hlq := (HR5.out.lt go rfl).2
                    have e1 : (Value.slice A2 (W ++ [(j : Int)]).length c2).ownBlock = (Value.slice A2 (W.length + 1) c2).ownBlock := by rw [HLN.out]
                    rw [Hid, e1]
                    rcases hat1 with h | h
                    · rw [h]; exact HN.out
                    · rw [h]; intro e; injection e with e; omega
                  have HR8 := Lib.hid (own_touch HR5.out HTT.out (fun k hk e => HN.out (e.trans hk.symm)))
                  have HB8 := Lib.hid (HB5.out.touch HTT.out (fun e => own_ne_blk HO5.out HB5.out (by decide) e))
                  have HW8 := Lib.hid (HW5.out.trans (HTT.out.toBelow HW5.out.size (fun k hk e => by have := (HO5.out.lt k e).1; omega)))
                  clear hown1 hgr1 hat1 HTT HO6 HO5 HR5 HB5 HW5
                  go_wp2_with fail
                  go_roundg ((lf out tq).toNat)
                  case measure => exact hgk
                  case rel => exact ⟨W ++ [(j : Int)], tq, vis ++ [s], A2, c2, by rw [HLN.out], rfl, rfl, by rw [← HST.out]; exact HPS.out, HB8, HR8, HO8, HN8, HW8⟩
                · have heq' : (lf out tq + cx == lf out s) = false := by simpa using heq
                  have HG2 : Hid (∀ y : Int, 0 ≤ y ∧ y < ((j + 1 : Nat) : Int) → ¬ goodX d cs out s y) := fun y hy hg => by
                    by_cases e : y = j
                    · subst e
                      have := hg.2
                      rw [HST.out, HCV.out] at this
                      exact heq this
                    · exact HG.out y (by omega) hg
                  have HEQ := Lib.hid heq
                  clear heq
                  go_wp2_with fail
                  go_quiet (fail)
                  go_wp2_with fail
                  have HB5 : Hid (BlkD (wr.drewN nq) w.heap.size d (some ⟨gn, on, none⟩) cn Aa ca) := Hbox.out.drewN nq
                  refine ⟨⟨j + 1, rfl, rfl, by go_num, by omega, HG2, HB5, HR, HO, bel_drewN HW.out nq⟩, by simp [intOf]; omega⟩
            · exfalso
              obtain ⟨x, hx, hg⟩ := HP.out.exists_ HLO.out HF.out hpos
              exact HG.out x ⟨hx.1, by omega⟩ hg
        · have hz : Hid (lf out s = 0) := by have := HLO.out.nonneg HF.out ⟨s0, s1⟩ HP.out.fin; show _ = _; omega
          have HB := Lib.hid (HP.out.best HLO.out HF.out hz.out)
          go_wp2_with fail
          go_returns
          refine ⟨some W, A, c, rfl, ⟨HB.out.1, ?_⟩, (fun h => by cases h), ?_, Rd.of_own HO.out (Nat.le_refl _), HW.out⟩
          · rw [HB.out.2.1]; exact HML.out
          · intro W' h
            cases h
            exact HB.out.2.2
end Go.Proofs.Ytmpcoclgcldclaa
