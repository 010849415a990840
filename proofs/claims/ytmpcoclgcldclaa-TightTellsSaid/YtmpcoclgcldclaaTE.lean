/- The walk of the document's Unlike: which states are told apart. -/
import Derived.Test.YtmpcoclgcldclaaTD
import Derived.Deep.LoopGhost
namespace Go.Proofs.Ytmpcoclgcldclaa
open Go.RowKit
attribute [local go_sem ↓] Go.wp_at_zero Go.wp_at_succ

theorem pq_ix {n : Nat} {s t : Int} (hs : 0 ≤ s) (ht : 0 ≤ t) : (s * (n : Int) + t).toNat = pq n s t := by
  obtain ⟨a, rfl⟩ := Int.eq_ofNat_of_zero_le hs
  obtain ⟨b, rfl⟩ := Int.eq_ofNat_of_zero_le ht
  unfold pq
  rw [show (a : Int) * (n : Int) + (b : Int) = ((a * n + b : Nat) : Int) by simp]
  simp only [Int.toNat_natCast]
theorem pq_bd {n : Nat} {s t : Int} (hn : n ≤ 100) (hs : 0 ≤ s ∧ s < n) (ht : 0 ≤ t ∧ t < n) : 0 ≤ s * (n : Int) ∧ s * (n : Int) ≤ 10000 ∧ 0 ≤ s * (n : Int) + t ∧ s * (n : Int) + t ≤ 10100 := by
  have h1 : 0 ≤ s * (n : Int) := Int.mul_nonneg hs.1 (by omega)
  have h2 : s * (n : Int) ≤ 100 * 100 := Int.mul_le_mul (by omega) (by omega) (by omega) (by omega)
  omega
/-- the automaton's variable, and the table -/
structure UW (w wr : World) (d : D) (An : Option Addr) (cn : Nat) (Aa : Option Addr) (ca m : Nat) (out : List Bool) : Prop where
  box : BlkD wr w.heap.size d An cn Aa ca
  row : wr.ownsRow w.heap.size 4 1 (.slice (some ⟨w.heap.size + 1, 0, none⟩) m m) m (out.map Value.bool)
  bel : Below w.heap.size w wr
section
variable {w wr w2 : World} {d : D} {An Aa : Option Addr} {cn ca m : Nat} {out : List Bool}
theorem UW.up (h : UW w wr d An cn Aa ca m out) (hb : Below wr.heap.size wr w2) : UW w w2 d An cn Aa ca m out := ⟨blk_below h.box hb, own_below h.row hb, bel_step h.bel hb⟩
theorem UW.drewN (h : UW w wr d An cn Aa ca m out) (n : Nat) : UW w (wr.drewN n) d An cn Aa ca m out := h.up (bel_drewN (Below.refl _ _) n)
theorem UW.put (h : UW w wr d An cn Aa ca m out) (p : Nat) (b : Bool) : UW w (wr.setCell ⟨w.heap.size + 1, p, none⟩ (.bool b)) d An cn Aa ca m (out.set p b) :=
  ⟨h.box.far (by show w.heap.size ≠ w.heap.size + 1; omega) _, by rw [List.map_set]; exact (h.row.stored p _).1, Below.setCell h.bel (by show w.heap.size ≤ w.heap.size + 1; omega) _⟩
end
def oneIf (b : Bool) : Nat := if b then 1 else 0
theorem pq_nat (n s t : Nat) : pq n (s : Int) (t : Int) = s * n + t := by simp [pq]
/-- what Unlike gives: a table of m places -/
def UnlR (d : D) (m : Nat) (w : World) (e : Ending) (w' : World) : Prop :=
  ∃ (A : Option Addr) (c : Nat) (out : List Bool), e = .returned (.slice A m c) ∧ out.length = d.A.length * d.A.length ∧ (∀ s t, inR d s → inR d t → (uAt out (pq d.A.length s t) = true ↔ ¬ LangEq d s d t)) ∧
    w'.ownsRow w.heap.size 4 1 (.slice A m c) m (out.map Value.bool) ∧ Below w.heap.size w w'
def ClosedIf (b : Bool) (d : D) (out : List Bool) (p : Nat) : Prop := b = false → Closed d out p
set_option maxHeartbeats 16000000 in
set_option maxRecDepth 100000 in
theorem unlike_any (d : D) (An Aa : Option Addr) (cn ca : Nat) (w : World) (hd : DIn w d An Aa) (hok : d.Ok) (hA : d.A.length ≤ 100) :
    Calls Try.prog 96 #[dfaV d.K d.S An d.N.length cn Aa d.A.length ca] w (UnlR d (d.A.length * d.A.length) w) := by
  obtain ⟨m, hm⟩ : ∃ m, m = d.A.length * d.A.length := ⟨_, rfl⟩
  have hmI : ((d.A.length : Nat) : Int) * ((d.A.length : Nat) : Int) = (m : Int) := by rw [hm]; simp
  have hmb : m ≤ 10000 := by rw [hm]; exact Nat.le_trans (Nat.mul_le_mul hA hA) (by omega)
  have HM := Lib.hid hm
  rw [← hm]
  have HD := Lib.hid hd; have HOK := Lib.hid hok
  have hK1 : 1 ≤ d.K := hok.1
  have hK2 : d.K ≤ 512 := hok.2.1
  obtain ⟨i4, hi, hz, hs, hb⟩ := info_parts Try.info4
  have HI := Lib.hid hi; have HZ := Lib.hid hz; have HS := Lib.hid hs; have HB := Lib.hid hb
  clear hi hz hs hb hm hd hok
  have HW := Lib.hid (bel_new w (.cells #[.int .i64 d.K, .int .i64 d.S, .slice An d.N.length cn, .slice Aa d.A.length ca] 25))
  have hbx := Blk.new w 25 #[.int .i64 d.K, .int .i64 d.S, .slice An d.N.length cn, .slice Aa d.A.length ca]
  have HBX := Lib.hid hbx
  clear hbx
  have hwm : IntKind.i64.wrap (m : Int) = (m : Int) := by rw [IntKind.wrap_i64]; omega
  go_enter Try.func96, Try.ntmps96
  go_wp2_with (refine wpList_make_full _ rfl (.tmp 15) (.tmp 15) 23 rfl w.heap.size 4 i4 (.bool false) 1 Try.underlying23 HI.out HZ.out HS.out .i64 .i64 _ _ m rfl rfl rfl rfl ?b2 ?b3 ?b4 ?_)
  case b2 => rw [HB.out]; omega
  case b3 => unfold maxLen; omega
  case b4 => exact HW.out.size
  intro w1 hown1 hgr1
  rw [toList_madeCells_one] at hown1
  have hbel : Below (w.heap.size + 1) (w.alloc (.cells #[.int .i64 d.K, .int .i64 d.S, .slice An d.N.length cn, .slice Aa d.A.length ca] 25)) w1 := (Touch.ofGrown hgr1).toBelow (by simp) (fun k hk e => by cases e)
  try simp only [size_alloc_one] at hown1 ⊢
  have HU0 : Hid (UW w w1 d An cn Aa ca m (List.replicate m false)) :=
    ⟨HBX.out.below hbel (by omega), by rw [List.map_replicate]; exact hown1, HW.out.trans (hbel.mono (by omega))⟩
  have HS0 : Hid (USound d (List.replicate m false)) := by show USound _ _; rw [HM.out]; exact USound.init d
  clear hown1 hgr1 hbel HW HBX hwm
  go_wp2_with fail
  go_loopg [5, 6, 7, 8, 9] (m + 1) (fun gk ag _ _ _ _ wr => ∃ (out : List Bool) (b : Bool), ag = .bool b ∧ gk = out.count false + oneIf b ∧ Hid (USound d out) ∧ Hid (ClosedIf b d out m) ∧ Hid (UW w wr d An cn Aa ca m out))
  case atStart => exact ⟨_, true, rfl, by simp [oneIf], HS0, (fun h => by cases h), HU0⟩
  case round =>
    clear HU0 HS0
    obtain ⟨out0, b, rfl, rfl, HSD, HCL, HU⟩ := hrel
    cases b
    · go_wp2_with fail
      go_ret
      refine ⟨_, _, out0, rfl, ?_, ?_, HU.out.row, HU.out.bel⟩
      · exact HSD.out.len
      · exact HSD.out.all HOK.out (by rw [← HM.out]; exact HCL.out rfl)
    · have HC1 : Hid (out0.count false + oneIf false ≤ out0.count false) := by show _ ≤ _; simp [oneIf]
      have HC0 : Hid (ClosedIf false d out0 (0 * d.A.length)) := fun _ s t _ _ h => by omega
      go_wp2_with fail
      go_loopw [5, 6, 7, 8, 9] (fun ag sI _ _ _ wr => ∃ (s : Nat) (out : List Bool) (b : Bool), ag = .bool b ∧ sI = .int .i64 s ∧ s ≤ d.A.length ∧ Hid (USound d out) ∧ Hid (out.count false + oneIf b ≤ out0.count false) ∧ Hid (ClosedIf b d out (s * d.A.length)) ∧ Hid (UW w wr d An cn Aa ca m out)) (fun _ sI _ _ _ _ => d.A.length - (intOf sI).toNat)
      case atStart => exact ⟨0, out0, false, rfl, rfl, Nat.zero_le _, HSD, HC1, HC0, HU⟩
      case round =>
        clear HSD HC1 HC0 HU HCL
        obtain ⟨s, out1, b1, rfl, rfl, hsn, HSD, HCT, HCL, HU⟩ := hrel
        by_cases hsl : s < d.A.length
        · have HC0 : Hid (ClosedIf b1 d out1 (s * d.A.length + 0)) := HCL.out
          go_wp2_with fail
          go_loopw [5, 7, 8, 9] (fun ag tI _ _ wr => ∃ (t : Nat) (out : List Bool) (b : Bool), ag = .bool b ∧ tI = .int .i64 t ∧ t ≤ d.A.length ∧ Hid (USound d out) ∧ Hid (out.count false + oneIf b ≤ out0.count false) ∧ Hid (ClosedIf b d out (s * d.A.length + t)) ∧ Hid (UW w wr d An cn Aa ca m out)) (fun _ tI _ _ _ => d.A.length - (intOf tI).toNat)
          case atStart => exact ⟨0, out1, b1, rfl, rfl, Nat.zero_le _, HSD, HCT, HC0, HU⟩
          case round =>
            clear HSD HCT HC0 HU HCL
            obtain ⟨t, out, b2, rfl, rfl, htn, HSD, HCT, HCL, HU⟩ := hrel
            obtain ⟨⟨a0, a1, a2, a3⟩, _⟩ := blk4 HU.out.box
            have hltb := HU.out.box.lt
            by_cases htl : t < d.A.length
            · obtain ⟨ga, oa, va, rfl, hga, hca, hva⟩ := (HD.out.ra.below HU.out.bel).bool_ix (i := (s : Int)) (by omega) (by omega)
              obtain ⟨ga', oa', vb, hA', _, hcb, hvb⟩ := (HD.out.ra.below HU.out.bel).bool_ix (i := (t : Int)) (by omega) (by omega)
              obtain ⟨rfl, rfl⟩ : ga = ga' ∧ oa = oa' := by simpa using hA'
              rw [Int.toNat_natCast] at hca hcb
              have hva' : d.acc (s : Int) = va := hva
              have hvb' : d.acc (t : Int) = vb := hvb
              have HAP0 : Hid ((va != vb) = apart d out s t ((0 : Nat) : Int)) := by
                show _ = _
                rw [Int.natCast_zero, apart_zero, hva', hvb']
                cases va <;> cases vb <;> rfl
              have hlga : ga < wr.heap.size := Nat.lt_of_lt_of_le hga HU.out.bel.size
              clear hva hvb hva' hvb' hA'
              generalize hab0 : (va != vb) = ab0 at HAP0
              go_wp2_with fail
              go_quiet (fail)
              have HU2 := Lib.hid (HU.out.drewN nq)
              clear HU a0 a1 a2 a3 hltb hca hcb hlga
              have hab1 : (!(va == vb)) = ab0 := hab0
              try rw [hab0]
              try rw [hab1]
              clear hab1
              clear hab0
              go_wp2_with fail
              go_loopw [8, 9] (fun ap xI wr => ∃ (x : Nat) (ab : Bool), ap = .bool ab ∧ xI = .int .i64 x ∧ (x : Int) ≤ d.K ∧ Hid (ab = apart d out s t x) ∧ Hid (UW w wr d An cn (some ⟨ga, oa, none⟩) ca m out)) (fun _ xI _ => (d.K - intOf xI).toNat)
              case atStart => exact ⟨0, ab0, rfl, rfl, by omega, HAP0, HU2⟩
              case round =>
                clear HAP0 HU2
                obtain ⟨x, ab, rfl, rfl, hxK, HAP, HU⟩ := hrel
                obtain ⟨⟨a0, a1, a2, a3⟩, _⟩ := blk4 HU.out.box
                have hltb := HU.out.box.lt
                by_cases hxl : (x : Int) < d.K
                · cases ab
                  · have hmb1 := HOK.out.mul_bd (s := (s : Int)) ⟨by omega, by omega⟩
                    have hix1 := HOK.out.idx (s := (s : Int)) (x := (x : Int)) ⟨by omega, by omega⟩ ⟨by omega, hxl⟩
                    have hmb2 := HOK.out.mul_bd (s := (t : Int)) ⟨by omega, by omega⟩
                    have hix2 := HOK.out.idx (s := (t : Int)) (x := (x : Int)) ⟨by omega, by omega⟩ ⟨by omega, hxl⟩
                    obtain ⟨gn, on, p, rfl, hgn, hcp, hp⟩ := (HD.out.rn.below HU.out.bel).int_ix hix1.1 hix1.2
                    obtain ⟨gn', on', q, hN', _, hcq, hq⟩ := (HD.out.rn.below HU.out.bel).int_ix hix2.1 hix2.2
                    obtain ⟨rfl, rfl⟩ : gn = gn' ∧ on = on' := by simpa using hN'
                    have hpr := HOK.out.step_lt (s := (s : Int)) (x := (x : Int)) ⟨by omega, by omega⟩ ⟨by omega, hxl⟩
                    have hqr := HOK.out.step_lt (s := (t : Int)) (x := (x : Int)) ⟨by omega, by omega⟩ ⟨by omega, hxl⟩
                    have hsp : d.step s x = p := hp
                    have hsq : d.step t x = q := hq
                    rw [hsp] at hpr
                    rw [hsq] at hqr
                    have hpqb := pq_bd hA hpr hqr
                    have hpql := pq_lt hpr hqr
                    have hpix := pq_ix (n := d.A.length) hpr.1 hqr.1
                    have hcell := (bool_cell HU.out.row (by rw [HSD.out.len, HM.out]) (p := pq d.A.length p q) (by rw [HM.out]; exact hpql)).1
                    have HAN : Hid (uAt out (pq d.A.length p q) = apart d out s t ((x + 1 : Nat) : Int)) := by
                      show _ = _
                      have h := apart_succ d out (s : Int) (t : Int) x
                      rw [← HAP.out, hsp, hsq, Bool.false_or] at h
                      rw [← h]
                      rfl
                    have hpm : pq d.A.length p q < m := by rw [HM.out]; exact hpql
                    obtain ⟨u, hu⟩ : ∃ u, u = uAt out (pq d.A.length p q) := ⟨_, rfl⟩
                    obtain ⟨pp, hpp⟩ : ∃ pp, pp = pq d.A.length p q := ⟨_, rfl⟩
                    rw [← hpp] at hcell hpix hpm hu HAN
                    rw [← hu] at hcell HAN
                    obtain ⟨hm1, hm2⟩ := hmb1
                    obtain ⟨hm3, hm4⟩ := hmb2
                    obtain ⟨hi1, hi2⟩ := hix1
                    obtain ⟨hi3, hi4⟩ := hix2
                    obtain ⟨hb1, hb2, hb3, hb4⟩ := hpqb
                    have v1 : IntKind.i64.wrap ((s : Int) * d.K) = (s : Int) * d.K := by rw [IntKind.wrap_i64]; omega
                    have v2 : IntKind.i64.wrap ((s : Int) * d.K + x) = (s : Int) * d.K + x := by rw [IntKind.wrap_i64]; omega
                    have v3 : IntKind.i64.wrap ((t : Int) * d.K) = (t : Int) * d.K := by rw [IntKind.wrap_i64]; omega
                    have v4 : IntKind.i64.wrap ((t : Int) * d.K + x) = (t : Int) * d.K + x := by rw [IntKind.wrap_i64]; omega
                    have v5 : IntKind.i64.wrap (p * (d.A.length : Int)) = p * (d.A.length : Int) := by rw [IntKind.wrap_i64]; omega
                    have v6 : IntKind.i64.wrap (p * (d.A.length : Int) + q) = p * (d.A.length : Int) + q := by rw [IntKind.wrap_i64]; omega
                    have hpmi : p * (d.A.length : Int) + q < (m : Int) := by
                      have : ((p * (d.A.length : Int) + q).toNat : Int) = p * (d.A.length : Int) + q := Int.toNat_of_nonneg hb3
                      rw [← this, hpix]
                      omega
                    have hlgn : gn < wr.heap.size := Nat.lt_of_lt_of_le hgn HU.out.bel.size
                    have hlgo : w.heap.size + 1 < wr.heap.size := (HU.out.row.lt _ rfl).2
                    clear hp hq hN' hsp hsq hpr hqr hpql hpp hu
                    go_wp2_with fail
                    go_quiet (fail)
                    have HU2 := Lib.hid (HU.out.drewN nq)
                    go_wp2_with fail
                    refine ⟨⟨x + 1, u, rfl, by go_num, by omega, HAN, HU2⟩, by simp [intOf]; omega⟩
                  · have HAN : Hid (true = apart d out s t ((x + 1 : Nat) : Int)) := by
                      show _ = _
                      have h := apart_succ d out (s : Int) (t : Int) x
                      rw [← HAP.out, Bool.true_or] at h
                      rw [← h]
                      rfl
                    go_wp2_with fail
                    go_quiet (fail)
                    have HU2 := Lib.hid (HU.out.drewN nq)
                    go_wp2_with fail
                    refine ⟨⟨x + 1, true, rfl, by go_num, by omega, HAN, HU2⟩, by simp [intOf]; omega⟩
                · have hxe : (x : Int) = d.K := by omega
                  have HAF : Hid (ab = apart d out s t d.K) := by show _ = _; rw [HAP.out, hxe]
                  clear HAP hxe
                  have hsr : inR d (s : Int) := ⟨by omega, by omega⟩
                  have htr : inR d (t : Int) := ⟨by omega, by omega⟩
                  have hpqb := pq_bd hA hsr htr
                  have hpql := pq_lt hsr htr
                  have hpix := pq_ix (n := d.A.length) hsr.1 htr.1
                  have hpn := pq_nat d.A.length s t
                  obtain ⟨hcell, hfz⟩ := bool_cell HU.out.row (by rw [HSD.out.len, HM.out]) (p := pq d.A.length s t) (by rw [HM.out]; exact hpql)
                  obtain ⟨hb1, hb2, hb3, hb4⟩ := hpqb
                  have v5 : IntKind.i64.wrap ((s : Int) * (d.A.length : Int)) = (s : Int) * (d.A.length : Int) := by rw [IntKind.wrap_i64]; omega
                  have v6 : IntKind.i64.wrap ((s : Int) * (d.A.length : Int) + t) = (s : Int) * (d.A.length : Int) + t := by rw [IntKind.wrap_i64]; omega
                  have hpmi : (s : Int) * (d.A.length : Int) + t < (m : Int) := by
                    have : (((s : Int) * (d.A.length : Int) + t).toNat : Int) = (s : Int) * (d.A.length : Int) + t := Int.toNat_of_nonneg hb3
                    rw [← this, hpix, HM.out]
                    omega
                  have hlgo : w.heap.size + 1 < wr.heap.size := (HU.out.row.lt _ rfl).2
                  have HPN : Hid (pq d.A.length (s : Int) (t : Int) = s * d.A.length + t) := hpn
                  have HSR := Lib.hid hsr; have HTR := Lib.hid htr
                  obtain ⟨pp, hpp⟩ : ∃ pp, pp = pq d.A.length (s : Int) (t : Int) := ⟨_, rfl⟩
                  have HPP := Lib.hid hpp
                  rw [← hpp] at hcell hfz hpix hpql
                  obtain ⟨u, hu⟩ : ∃ u, u = uAt out pp := ⟨_, rfl⟩
                  have HUU := Lib.hid hu
                  rw [← hu] at hcell
                  clear hpn hpp hu hsr htr
                  cases ab
                  · have HC2 : Hid (ClosedIf b2 d out (s * d.A.length + (t + 1))) := fun hb => by
                      have h := (HCL.out hb)
                      rw [← HPN.out] at h
                      have h2 := h.pass HSR.out HTR.out (fun ha => by rw [← HAF.out] at ha; cases ha)
                      rw [HPN.out] at h2
                      exact h2
                    go_wp2_with fail
                    go_roundw
                    case rel => exact ⟨t + 1, out, b2, rfl, by go_num, by omega, HSD, HCT, HC2, HU⟩
                    case measure => simp [intOf]; omega
                  · cases u
                    · have HSD2 := Lib.hid (HSD.out.mark HOK.out HSR.out HTR.out HAF.out.symm)
                      have HU2 := Lib.hid (HU.out.put pp true)
                      have HCT2 : Hid ((out.set pp true).count false + oneIf true ≤ out0.count false) := by
                        have h1 := HCT.out
                        have h2 : out[pp]? = some false := by
                          have hl : pp < out.length := by rw [HSD.out.len]; exact hpql
                          have h3 := HUU.out
                          unfold uAt at h3
                          rw [List.getD_eq_getElem?_getD, List.getElem?_eq_getElem hl, Option.getD_some] at h3
                          rw [List.getElem?_eq_getElem hl, ← h3]
                        have h4 := count_set_true h2
                        show _ ≤ _
                        simp only [oneIf] at h1 ⊢
                        simp only [if_true]
                        omega
                      rw [← HPP.out] at HSD2
                      go_wp2_with fail
                      go_roundw
                      case rel => exact ⟨t + 1, out.set pp true, true, rfl, by go_num, by omega, HSD2, HCT2, (fun h => by cases h), HU2⟩
                      case measure => simp [intOf]; omega
                    · have HC2 : Hid (ClosedIf b2 d out (s * d.A.length + (t + 1))) := fun hb => by
                        have h := (HCL.out hb)
                        rw [← HPN.out] at h
                        have h2 := h.pass HSR.out HTR.out (fun _ => by rw [← HPP.out]; exact HUU.out.symm)
                        rw [HPN.out] at h2
                        exact h2
                      go_wp2_with fail
                      go_roundw
                      case rel => exact ⟨t + 1, out, b2, rfl, by go_num, by omega, HSD, HCT, HC2, HU⟩
                      case measure => simp [intOf]; omega
            · have hte : t = d.A.length := by omega
              have HC2 : Hid (ClosedIf b2 d out ((s + 1) * d.A.length)) := fun hb => by
                have h := HCL.out hb
                rw [hte] at h
                rw [Nat.succ_mul]
                exact h
              clear hte
              go_wp2_with fail
              go_roundw
              case rel => exact ⟨s + 1, out, b2, rfl, by go_num, by omega, HSD, HCT, HC2, HU⟩
              case measure => simp [intOf]; omega
        · have hse : s = d.A.length := by omega
          have HC2 : Hid (ClosedIf b1 d out1 m) := fun hb => by
            have h := HCL.out hb
            rw [hse] at h
            rw [HM.out]
            exact h
          have hgk : out1.count false + oneIf b1 < out0.count false + oneIf true := by
            have h := HCT.out
            have e : oneIf true = 1 := rfl
            omega
          clear hse
          go_wp2_with fail
          go_roundg (out1.count false + oneIf b1)
          case measure => exact hgk
          case rel => exact ⟨out1, b1, rfl, rfl, HSD, HC2, HU⟩
end Go.Proofs.Ytmpcoclgcldclaa
