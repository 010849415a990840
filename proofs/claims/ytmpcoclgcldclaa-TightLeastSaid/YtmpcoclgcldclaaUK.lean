/- The walk of tight's classes. -/
import Derived.Test.YtmpcoclgcldclaaUG
import Derived.Test.YtmpcoclgcldclaaUJ
import Derived.Deep.LoopGhost
import Derived.BigQuiet
import Derived.StillTailTactics
namespace Go.Proofs.Ytmpcoclgcldclaa
open Go.RowKit
attribute [local go_sem ↓] Go.wp_at_zero Go.wp_at_succ

/-- what classes gives -/
def ClsR (d : D) (w : World) (e : Ending) (w' : World) : Prop :=
  ∃ (A : Option Addr) (c : Nat) (cls : List Int), e = .returned (.slice A cls.length c) ∧ cls.length = d.A.length ∧ w'.ownsRow w.heap.size 3 1 (.slice A cls.length c) cls.length (cls.map (Value.int .i64)) ∧ Below w.heap.size w w' ∧
    Cong d (fun s t => gI cls s.toNat = gI cls t.toNat) ∧ ∀ s t : Int, (0 ≤ s ∧ s < d.A.length) → (0 ≤ t ∧ t < d.A.length) → LangEq d s d t → gI cls s.toNat = gI cls t.toNat
set_option maxHeartbeats 8000000 in
set_option maxRecDepth 100000 in
theorem classes_any (d : D) (An Aa : Option Addr) (cn ca : Nat) (w : World) (hd : DIn w d An Aa) (hok : d.Ok) :
    Calls Try.prog 95 #[dfaV d.K d.S An d.N.length cn Aa d.A.length ca] w (ClsR d w) := by
  have HOK := Lib.hid hok
  have hA2 : d.A.length ≤ 65536 := hok.2.2.2.1
  have hA1 : 1 ≤ d.A.length := hok.2.2.1
  have hK1 : 1 ≤ d.K := hok.1
  have hK2 : d.K ≤ 512 := hok.2.1
  have HBX := Lib.hid (Blk.new w 25 #[.int .i64 d.K, .int .i64 d.S, .slice An d.N.length cn, .slice Aa d.A.length ca])
  have HW := Lib.hid (bel_new w (.cells #[.int .i64 d.K, .int .i64 d.S, .slice An d.N.length cn, .slice Aa d.A.length ca] 25))
  have HDA := Lib.hid (hd.alloc (.cells #[.int .i64 d.K, .int .i64 d.S, .slice An d.N.length cn, .slice Aa d.A.length ca] 25))
  have HWS : Hid ((w.alloc (.cells #[.int .i64 d.K, .int .i64 d.S, .slice An d.N.length cn, .slice Aa d.A.length ca] 25)).heap.size = w.heap.size + 1) := size_alloc_one _ _
  clear hd hok
  obtain ⟨⟨a0, a1, a2, a3⟩, _⟩ := blk4 HBX.out
  have hlt := HBX.out.lt
  go_enter Try.func95, Try.ntmps95
  go_wp2_with fail
  refine (prepared_any d An Aa cn ca _ HDA.out HOK.out).mono ?_
  rintro e w1 ⟨gs, s0, rfl, hsw, hB, hH, hcls, hM, hT⟩
  have HSW0 := Lib.hid hsw; have HB0 := Lib.hid hB; have HH0 := Lib.hid hH
  have HWK0 : Hid (Work d s0.cls (s0.M.map Prod.snd) (s0.T.map Prod.snd) (fun _ => False)) := by
    show Work _ _ _ _ _
    rw [hcls, hM, hT]; exact Work.begin_ HOK.out
  have HLN0 : Hid (leftN d (s0.M.map Prod.snd) (s0.T.map Prod.snd) ≤ 1000000) := by
    show _ ≤ _
    rw [hM, hT]; unfold leftN accM; simp; omega
  clear hsw hB hH hcls hM hT HDA a0 a1 a2 a3 hlt
  generalize w.alloc (.cells #[.int .i64 d.K, .int .i64 d.S, .slice An d.N.length cn, .slice Aa d.A.length ca] 25) = W0 at HBX HW HWS HSW0 ⊢
  have HBXW : Hid (∀ w' s, SW W0 w' d An cn Aa ca gs s → Blk w' w.heap.size 25 #[.int .i64 d.K, .int .i64 d.S, .slice An d.N.length cn, .slice Aa d.A.length ca]) := fun w' s h => HBX.out.below h.bel (by rw [HWS.out]; omega)
  obtain ⟨⟨s00, s04, s05, s06, s07⟩, hsl0⟩ := HSW0.out.cells
  go_wp2_with fail
  clear s00 s04 s05 s06 s07 hsl0
  go_loopg [4, 5, 42] (leftN d (s0.M.map Prod.snd) (s0.T.map Prod.snd)) (fun gk _ _ _ wr => ∃ s : SS, gk = leftN d (s.M.map Prod.snd) (s.T.map Prod.snd) ∧ Hid (SW W0 wr d An cn Aa ca gs s) ∧ Hid (BackOk d s.B) ∧ Hid (s.H = fun _ => none) ∧ Hid (Work d s.cls (s.M.map Prod.snd) (s.T.map Prod.snd) (fun _ => False)) ∧ Hid (leftN d (s.M.map Prod.snd) (s.T.map Prod.snd) ≤ 1000000))
  case atStart => exact ⟨s0, rfl, HSW0, HB0, HH0, HWK0, HLN0⟩
  case round =>
    clear HSW0 HB0 HH0 HWK0 HLN0
    obtain ⟨s, rfl, HSW, HB, HH, HWK, HLN⟩ := hrel
    obtain ⟨⟨s0', s4, s5, s6, s7⟩, hsl⟩ := HSW.out.cells
    obtain ⟨⟨a0, a1, a2, a3⟩, _⟩ := blk4 (HBXW.out _ _ HSW.out)
    have hbl := (HBXW.out _ _ HSW.out).lt
    rcases List.eq_nil_or_concat s.T with hT | ⟨T, p, hT⟩
    · have hfot : s.fam .ot = some ⟨22, s.vt, s.T.map Prod.fst⟩ := rfl
      obtain ⟨At, ct, hvt⟩ := HSW.out.fam.form hfot
      rw [hT] at hvt
      have hvt' : s.vt = .slice At 0 ct := hvt
      rw [hvt'] at s7
      have hfc : s.fam .cls = some ⟨3, s.vc, s.cls.map (Value.int .i64)⟩ := rfl
      have hoc := HSW.out.fam.own _ _ hfc
      obtain ⟨Ac, cc, hvc⟩ := HSW.out.fam.form hfc
      rw [List.length_map] at hvc
      rw [hvc] at s5
      have hwk := HWK.out
      rw [hT] at hwk
      have HWK1 : Hid (Work d s.cls (s.M.map Prod.snd) [] (fun _ => False)) := hwk
      have HOC : Hid (wr.ownsRow W0.heap.size 3 1 (.slice Ac s.cls.length cc) s.cls.length (s.cls.map (Value.int .i64))) := by
        simp only [List.length_map, hvc] at hoc
        exact hoc
      clear hfot hvt hT hvt' hfc hoc hwk hvc
      go_wp2_with fail
      go_ret
      exact ⟨Ac, cc, s.cls, rfl, HWK1.out.part.len, HOC.out.mono (by rw [HWS.out]; omega), HW.out.trans (HSW.out.bel.mono (by rw [HWS.out]; omega)), HWK1.out.stable HOK.out, HWK1.out.full⟩
    · rw [List.concat_eq_append] at hT
      obtain ⟨vU, U⟩ := p
      have hlen : s.T.length = T.length + 1 := by rw [hT]; simp
      have hfot : s.fam .ot = some ⟨22, s.vt, s.T.map Prod.fst⟩ := rfl
      have hpl : s.T[T.length]? = some (vU, U) := by rw [hT, List.getElem?_append_right (Nat.le_refl _), Nat.sub_self]; rfl
      obtain ⟨g, c, hvt, t1, _, _, tl⟩ := HSW.out.fam.cell hfot (j := T.length) (x := vU) (by rw [List.getElem?_map, hpl]; rfl)
      rw [List.length_map, hlen] at hvt
      rw [hvt] at s7
      have HVT := Lib.hid hvt
      have hfu : s.fam (.todo T.length) = some ⟨3, vU, U.map (Value.int .i64)⟩ := by simp [SS.fam, hpl, rI]
      obtain ⟨AU, cU, rfl⟩ := HSW.out.fam.form hfu
      rw [List.length_map] at t1 hpl hT
      have HT := Lib.hid hT
      have HTT : Hid (Satd d U ∧ U.Nodup ∧ ∀ s ∈ U, inR d s) := HWK.out.tsat U (by rw [hT]; simp)
      have HWK1 : Hid (Work d s.cls (s.M.map Prod.snd) (T.map Prod.snd) (SameSet U)) := by
        have h := HWK.out
        rw [hT, List.map_append] at h
        exact h.pop
      have HLT : Hid (leftN d (s.M.map Prod.snd) (T.map Prod.snd) + 1 = leftN d (s.M.map Prod.snd) (s.T.map Prod.snd)) := by
        show _ = _
        unfold leftN; simp only [List.length_map, hlen]; omega
      have hTl : T.length ≤ 1000000 := by
        have h := HLN.out
        unfold leftN at h
        simp only [List.length_map, hlen] at h
        omega
      have v1 : IntKind.i64.wrap (((T.length + 1 : Nat) : Int) - 1) = (T.length : Nat) := by rw [IntKind.wrap_i64]; omega
      clear hT hlen hfot hpl hvt hfu
      go_wp2_with fail
      go_quiet (fail)
      have HSW1 := Lib.hid (HSW.out.drewN nq)
      clear HSW s0' s4 s5 s6 s7 hsl a0 a1 a2 a3 hbl t1 tl
      generalize wr.drewN nq = wq at HSW1 ⊢
      obtain ⟨⟨s0', s4, s5, s6, s7⟩, hsl⟩ := HSW1.out.cells
      rw [HVT.out] at s7
      have hz7 : wq.frozen? ⟨gs, 7, none⟩ = false := HSW1.out.blk.frozen 7
      have HSW2 := Lib.hid (HSW1.out.pop HVT.out HT.out).drew
      obtain ⟨⟨a0, a1, a2, a3⟩, _⟩ := blk4 (HBXW.out _ _ HSW1.out)
      have hbl := (HBXW.out _ _ HSW1.out).lt
      have hne1 : ¬ gs = w.heap.size := fun e => by have h := HSW1.out.lo; rw [HWS.out] at h; omega
      have hne2 : ¬ w.heap.size = gs := fun e => hne1 e.symm
      have hcap : T.length + 1 ≤ c := by
        have h := HSW1.out.fam.own (.ot) ⟨22, s.vt, s.T.map Prod.fst⟩ rfl
        simp only [List.length_map, HT.out, List.length_append, List.length_cons, List.length_nil, HVT.out] at h
        rcases h.2 with ⟨_, h0⟩ | ⟨g', c', cur, hv, _, _, hle, _⟩
        · omega
        · injection hv with _ _ h3; omega
      have v2 : IntKind.i64.wrap ((T.length : Nat) : Int) = (T.length : Nat) := by rw [IntKind.wrap_i64]; omega
      have hcap2 : T.length ≤ c := by omega
      clear s0' s4 s5 s6 HSW1
      go_wp2_with fail
      go_still_tail 14, (by kernel_rfl)
      change wpList _ _ _ _ _ wq.drew
      go_wp2_with fail
      have HS0 : Hid (∃ s' : SS, s' = { s with vt := .slice (some ⟨g, 0, none⟩) T.length c, T := T, cur := some (.slice AU U.length cU, U) } ∧ s'.B = s.B ∧ s'.H = s.H ∧ s'.cls = s.cls ∧ s'.M = s.M ∧ s'.T = T ∧ s'.cur = some (.slice AU U.length cU, U)) := ⟨_, rfl, rfl, rfl, rfl, rfl, rfl, rfl⟩
      obtain ⟨sp, hsp, e1, e2, e3, e4, e5, e6⟩ := HS0.out
      replace HSW2 : Hid (SW W0 (wq.setCell ⟨gs, 7, none⟩ (.slice (some ⟨g, 0, none⟩) T.length c)).drew d An cn Aa ca gs sp) := by rw [hsp]; exact HSW2
      generalize (wq.setCell ⟨gs, 7, none⟩ (.slice (some ⟨g, 0, none⟩) T.length c)).drew = w2 at HSW2 ⊢
      have HB2 : Hid (BackOk d sp.B) := by show BackOk _ _; rw [e1]; exact HB.out
      have HH2 : Hid (sp.H = fun _ => none) := by show _ = _; rw [e2]; exact HH.out
      have HC2 : Hid (sp.cur = some (.slice AU U.length cU, U)) := e6
      have HWK2 : Hid (Work d sp.cls (sp.M.map Prod.snd) (sp.T.map Prod.snd) (SameSet U)) := by show Work _ _ _ _ _; rw [e3, e4, e5]; exact HWK1.out
      have HLT2 : Hid (leftN d (sp.M.map Prod.snd) (sp.T.map Prod.snd) + 1 ≤ leftN d (s.M.map Prod.snd) (s.T.map Prod.snd)) := by show _ ≤ _; rw [e4, e5]; exact Nat.le_of_eq HLT.out
      have HST2 : Hid (∀ y : Int, 0 ≤ y ∧ y < ((0 : Nat) : Int) → StabAll d sp.cls y U) := fun y hy => by omega
      clear hsp e1 e2 e3 e4 e5 e6 HS0 HB HH HWK HWK1 HVT HT HLT s7 hz7 hcap hcap2 v1 v2 hne1 hne2 a0 a1 a2 a3 hbl hsl
      go_loopw [5, 42] (fun _ xI wi => ∃ (x : Nat) (s' : SS), xI = .int .i64 x ∧ (x : Int) ≤ d.K ∧ Hid (SW W0 wi d An cn Aa ca gs s') ∧ Hid (BackOk d s'.B) ∧ Hid (s'.H = fun _ => none) ∧ Hid (s'.cur = some (.slice AU U.length cU, U)) ∧ Hid (Work d s'.cls (s'.M.map Prod.snd) (s'.T.map Prod.snd) (SameSet U)) ∧ Hid (∀ y : Int, 0 ≤ y ∧ y < (x : Int) → StabAll d s'.cls y U) ∧ Hid (leftN d (s'.M.map Prod.snd) (s'.T.map Prod.snd) + 1 ≤ leftN d (s.M.map Prod.snd) (s.T.map Prod.snd))) (fun _ xI _ => (d.K - intOf xI).toNat)
      case atStart => exact ⟨0, sp, rfl, by omega, HSW2, HB2, HH2, HC2, HWK2, HST2, HLT2⟩
      case round =>
        clear HSW2 HB2 HH2 HC2 HWK2 HST2 HLT2
        obtain ⟨x, s', rfl, hxK, HSW2, HB2, HH2, HC2, HWK2, HST2, HLT2⟩ := hrel
        by_cases hxl : (x : Int) < d.K
        · have C120 := Lib.hid (by_any W0 wr d An Aa cn ca gs s' U (x : Int) (.slice AU U.length cU) HOK.out HSW2.out HB2.out HH2.out HC2.out HTT.out.2.1 HTT.out.2.2 ⟨by omega, hxl⟩ HWK2.out HTT.out.1 HST2.out (Nat.le_trans (Nat.le_of_succ_le HLT2.out) HLN.out))
          go_wp2_with fail
          refine C120.out.mono ?_
          rintro e w3 ⟨s'', rfl, h1, h2, h3, h4, h5, h6, h7⟩
          have HSW3 := Lib.hid h1
          have HH3 := Lib.hid h2
          have HC3 : Hid (s''.cur = some (.slice AU U.length cU, U)) := by show _ = _; rw [h3]; exact HC2.out
          have HB3 : Hid (BackOk d s''.B) := by show BackOk _ _; rw [h4]; exact HB2.out
          have HWK3 := Lib.hid h5
          have HST3 : Hid (∀ y : Int, 0 ≤ y ∧ y < ((x + 1 : Nat) : Int) → StabAll d s''.cls y U) := fun y hy => h6 y (by omega)
          have HLT3 : Hid (leftN d (s''.M.map Prod.snd) (s''.T.map Prod.snd) + 1 ≤ leftN d (s.M.map Prod.snd) (s.T.map Prod.snd)) := Nat.le_trans (Nat.succ_le_succ h7) HLT2.out
          clear h1 h2 h3 h4 h5 h6 h7 C120
          go_wp2_with fail
          go_roundw
          case rel => exact ⟨x + 1, s'', by go_num, by omega, HSW3, HB3, HH3, HC3, HWK3, HST3, HLT3⟩
          case measure => simp [intOf]; omega
        · have HWK3 : Hid (Work d s'.cls (s'.M.map Prod.snd) (s'.T.map Prod.snd) (fun _ => False)) := HWK2.out.over (fun y hy => HST2.out y (by omega))
          have hgk : leftN d (s'.M.map Prod.snd) (s'.T.map Prod.snd) < leftN d (s.M.map Prod.snd) (s.T.map Prod.snd) := HLT2.out
          have HLN3 : Hid (leftN d (s'.M.map Prod.snd) (s'.T.map Prod.snd) ≤ 1000000) := Nat.le_trans (Nat.le_of_lt hgk) HLN.out
          have HSW3 := Lib.hid HSW2.out.noCur
          go_wp2_with fail
          go_roundg (leftN d (s'.M.map Prod.snd) (s'.T.map Prod.snd))
          case measure => exact hgk
          case rel => exact ⟨{ s' with cur := none }, rfl, HSW3, HB2, HH2, HWK3, HLN3⟩
end Go.Proofs.Ytmpcoclgcldclaa
