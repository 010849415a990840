/- The walk of split's by, its first half: the hits are gathered. -/
import Derived.Test.YtmpcoclgcldclaaUH
import Derived.Handy
import Derived.StillTailTactics
import Derived.Test.YtmpcoclgcldclaaPeel
import Derived.Deep.RegionHeld3
import Derived.Deep.DeepCutAuto
namespace Go.Proofs.Ytmpcoclgcldclaa
open Go.RowKit
attribute [local go_sem ↓] Go.wp_at_zero Go.wp_at_succ

/-- what by gives -/
def ByR (w : World) (d : D) (An : Option Addr) (cn : Nat) (Aa : Option Addr) (ca gs : Nat) (s : SS) (U : List Int) (x : Int) (e : Ending) (w' : World) : Prop :=
  ∃ s' : SS, e = .returned (.tuple #[]) ∧ SW w w' d An cn Aa ca gs s' ∧ (s'.H = fun _ => none) ∧ s'.cur = s.cur ∧ s'.B = s.B ∧ Work d s'.cls (s'.M.map Prod.snd) (s'.T.map Prod.snd) (SameSet U) ∧ (∀ y, 0 ≤ y ∧ y < x + 1 → StabAll d s'.cls y U) ∧ leftN d (s'.M.map Prod.snd) (s'.T.map Prod.snd) ≤ leftN d (s.M.map Prod.snd) (s.T.map Prod.snd)

set_option maxHeartbeats 16000000 in
set_option maxRecDepth 100000 in
theorem by_any (w wi : World) (d : D) (An Aa : Option Addr) (cn ca gs : Nat) (s : SS) (U : List Int) (x : Int) (vU : Value) (hd : d.Ok) (h : SW w wi d An cn Aa ca gs s) (hB : BackOk d s.B) (hH : s.H = fun _ => none)
    (hc : s.cur = some (vU, U)) (hund : U.Nodup) (hur : ∀ u ∈ U, inR d u) (hx : 0 ≤ x ∧ x < d.K)
    (hw : Work d s.cls (s.M.map Prod.snd) (s.T.map Prod.snd) (SameSet U)) (hU : Satd d U) (hb : ∀ y, 0 ≤ y ∧ y < x → StabAll d s.cls y U) (hlim : leftN d (s.M.map Prod.snd) (s.T.map Prod.snd) ≤ 1000000) :
    Calls Try.prog 120 #[.pointer (some ⟨gs, 0, none⟩), vU, .int .i64 x] wi (ByR w d An cn Aa ca gs s U x) := by
  have HOK := Lib.hid hd; have HB := Lib.hid hB; have HC := Lib.hid hc; have HUR := Lib.hid hur
  have HWK := Lib.hid hw; have HUS := Lib.hid hU; have HBF := Lib.hid hb; have HND := Lib.hid hund
  have hA2 : d.A.length ≤ 65536 := hd.2.2.2.1
  have hK1 : 1 ≤ d.K := hd.1
  have hK2 : d.K ≤ 512 := hd.2.1
  have HCL : Hid (s.cls.length = d.A.length) := hw.part.len
  obtain ⟨hx0, hx1⟩ := hx
  obtain ⟨AU, cU, rfl⟩ := h.fam.form (t := .cur) (e := 3) (v := vU) (xs := U.map (Value.int .i64)) (by simp [SS.fam, hc, rI])
  rw [List.length_map] at hc ⊢
  have hUL : U.length ≤ d.A.length := by
    have h2 := nodup_lt d.A.length (U.map Int.toNat) (by
      rw [List.Nodup, List.pairwise_map]
      refine List.Pairwise.imp_of_mem ?_ hund
      intro a b ha hb hne e
      have h1 := hur a ha
      have h2 := hur b hb
      unfold inR at h1 h2
      omega) (by
      intro t ht
      obtain ⟨a, ha, rfl⟩ := List.mem_map.1 ht
      have h1 := hur a ha
      unfold inR at h1
      omega)
    simpa using h2
  have HS0 : Hid (BW w ((wi.alloc (.cells #[.pointer (some ⟨gs, 0, none⟩)] 129)).alloc (.map #[] 0)) d An cn Aa ca gs s wi.heap.size (wi.heap.size + 1) (fun _ => none)) := by
    have h1 := (Blk.new wi 129 #[.pointer (some ⟨gs, 0, none⟩)]).alloc (.map #[] 0)
    have h2 := MapF.made (wi.alloc (.cells #[.pointer (some ⟨gs, 0, none⟩)] 129)) (Value.int .i64)
    simp only [size_alloc_one] at h2
    have e : ({ s with H := fun _ => none } : SS) = s := by rw [← hH]
    refine ⟨?_, h1, ⟨0, h2⟩, h.bel.size, by have := h.bel.size; omega⟩
    rw [e]
    exact (h.alloc _).alloc _
  have HH0 := Lib.hid (HitsAre.init s.cls)
  obtain ⟨i3, hi, hz, hs3, hb3⟩ := info_parts Try.info3
  have HI3 := Lib.hid hi; have HZ3 := Lib.hid hz; have HS3 := Lib.hid hs3; have HB3 := Lib.hid hb3
  have hmm := @run_makeMap Try.prog
  clear hi hz hs3 hb3 hd h hB hH hc hund hur hw hU hb
  go_enter Try.func120, Try.ntmps120
  go_wp2_with fail
  clear hmm
  generalize wi.heap.size + 1 = gm at HS0 ⊢
  generalize wi.heap.size = gb at HS0 ⊢
  generalize (wi.alloc (.cells #[.pointer (some ⟨gs, 0, none⟩)] 129)).alloc (.map #[] 0) = w0 at HS0 ⊢
  go_loopw [8, 10, 11, 20, 40] (fun _ _ _ iI _ wr => ∃ (i : Nat) (H : Int → Option LV), iI = .int .i64 i ∧ i ≤ U.length ∧ Hid (HitsAre s.cls (gath d x (U.take i)) H) ∧ Hid (BW w wr d An cn Aa ca gs s gb gm H)) (fun _ _ _ iI _ _ => U.length - (intOf iI).toNat)
  case atStart => exact ⟨0, _, rfl, Nat.zero_le _, HH0, HS0⟩
  case round =>
    clear HH0 HS0
    obtain ⟨i, H, rfl, hiU, HH, HS⟩ := hrel
    by_cases hlt : i < U.length
    · have hcur : ({ s with H := H } : SS).fam .cur = some ⟨3, .slice AU U.length cU, U.map (Value.int .i64)⟩ := by simp [SS.fam, HC.out, rI]
      obtain ⟨u, hu⟩ : ∃ u, U[i]? = some u := ⟨_, List.getElem?_eq_getElem hlt⟩
      obtain ⟨gu, cu, hvu, cu1, _, _, cu4⟩ := HS.out.sw.fam.cell hcur (j := i) (x := .int .i64 u) (by rw [List.getElem?_map, hu]; rfl)
      obtain ⟨rfl, rfl⟩ : AU = some ⟨gu, 0, none⟩ ∧ cU = cu := by injection hvu with h1 _ h3; exact ⟨h1, h3⟩
      have hur := HUR.out u (List.mem_of_getElem? hu)
      have HUU := Lib.hid hu
      obtain ⟨⟨s0, s4, s5, s6, s7⟩, hsl⟩ := HS.out.sw.cells
      have b0 : wr.cell? ⟨gb, 0, none⟩ = some (.pointer (some ⟨gs, 0, none⟩)) := by rw [HS.out.box.cell]; rfl
      have hbl := HS.out.box.lt
      obtain ⟨vL, hL⟩ := HB.out.2 u x hur ⟨hx0, hx1⟩
      have hbk : ({ s with H := H } : SS).fam (.bk (u * d.K + x).toNat) = some ⟨3, vL, (backN d d.A.length u x).map (Value.int .i64)⟩ := by simp [SS.fam, hL, rI]
      obtain ⟨AL, cL, rfl⟩ := HS.out.sw.fam.form hbk
      rw [List.length_map] at hL hbk
      have hob : ({ s with H := H } : SS).fam .ob = some ⟨22, s.vb, s.B.map Prod.fst⟩ := rfl
      obtain ⟨go, co, hvo, co1, _, _, co4⟩ := HS.out.sw.fam.cell hob (j := (u * d.K + x).toNat) (x := .slice AL (backN d d.A.length u x).length cL) (by rw [List.getElem?_map, hL]; rfl)
      have hix := HOK.out.idx hur ⟨hx0, hx1⟩
      have hmb := HOK.out.mul_bd hur
      have hBl : (s.B.length : Int) = d.N.length := by rw [HB.out.1, HOK.out.nlen]
      rw [List.length_map] at hvo
      rw [hvo] at s4
      obtain ⟨hi1, hi2⟩ := hix
      obtain ⟨hm1, hm2⟩ := hmb
      have hi3 : u * d.K + x < (s.B.length : Int) := by omega
      have v1 : IntKind.i64.wrap (u * d.K) = u * d.K := by rw [IntKind.wrap_i64]; omega
      have v2 : IntKind.i64.wrap (u * d.K + x) = u * d.K + x := by rw [IntKind.wrap_i64]; omega
      have HBK := Lib.hid hbk
      obtain ⟨L, hLL⟩ : ∃ L, L = backN d d.A.length u x := ⟨_, rfl⟩
      have HLL := Lib.hid hLL
      rw [← hLL] at co1 HBK
      have HP := Lib.hid (fun j => gath_part (d := d) (x := x) (j := j) HND.out hu)
      rw [← hLL] at HP
      have HLM : Hid (∀ q ∈ L, inR d q) := fun q hq => by rw [hLL] at hq; exact (backN_mem.1 hq).1
      have HGN : Hid (gath d x (U.take (i + 1)) = gath d x (U.take i) ++ L) := by show _ = _; rw [take_snoc hu, gath_snoc, hLL]
      have HH0 : Hid (HitsAre s.cls (gath d x (U.take i) ++ L.take 0) H) := by show HitsAre _ _ _; rw [List.take_zero, List.append_nil]; exact HH.out
      have HAL : Hid (s.B[(u * d.K + x).toNat]? = some (.slice AL L.length cL, L)) := by show _ = _; rw [hLL]; exact hL
      have hLl : L.length ≤ 65536 := by
        have h1 := HP.out L.length
        rw [List.take_length, List.length_append] at h1
        omega
      clear hvu hu hL hbk hob hcur hLL hBl hi2 hvo
      go_wp2_with fail
      go_quiet (fail)
      have HS2 := Lib.hid (HS.out.drewN nq)
      clear HS HH HBK s0 s4 s5 s6 s7 hsl b0 hbl cu1 cu4 co1 co4 HLL
      generalize wr.drewN nq = w1 at HS2 ⊢
      go_wp2_with fail
      go_loopw [10, 11, 40] (fun _ _ jI wi => ∃ (j : Nat) (H : Int → Option LV), jI = .int .i64 j ∧ j ≤ L.length ∧ Hid (HitsAre s.cls (gath d x (U.take i) ++ L.take j) H) ∧ Hid (BW w wi d An cn Aa ca gs s gb gm H)) (fun _ _ jI _ => L.length - (intOf jI).toNat)
      case atStart => exact ⟨0, H, rfl, Nat.zero_le _, HH0, HS2⟩
      case round =>
        clear HH0 HS2
        obtain ⟨j, H, rfl, hjL, HH, HS⟩ := hrel
        obtain ⟨⟨s0, s4, s5, s6, s7⟩, hsl⟩ := HS.out.sw.cells
        have b0 : wr.cell? ⟨gb, 0, none⟩ = some (.pointer (some ⟨gs, 0, none⟩)) := by rw [HS.out.box.cell]; rfl
        have hbl := HS.out.box.lt
        by_cases hjl : j < L.length
        · have hbk : ({ s with H := H } : SS).fam (.bk (u * d.K + x).toNat) = some ⟨3, .slice AL L.length cL, L.map (Value.int .i64)⟩ := by simp [SS.fam, HAL.out, rI]
          obtain ⟨q, hq⟩ : ∃ q, L[j]? = some q := ⟨_, List.getElem?_eq_getElem hjl⟩
          obtain ⟨gl, cl, hvl, cl1, _, _, cl4⟩ := HS.out.sw.fam.cell hbk (j := j) (x := .int .i64 q) (by rw [List.getElem?_map, hq]; rfl)
          obtain ⟨rfl, rfl⟩ : AL = some ⟨gl, 0, none⟩ ∧ cL = cl := by injection hvl with h1 _ h3; exact ⟨h1, h3⟩
          have hqr := HLM.out q (List.mem_of_getElem? hq)
          unfold inR at hqr
          obtain ⟨hq0, hq1⟩ := hqr
          have hcls : ({ s with H := H } : SS).fam .cls = some ⟨3, s.vc, s.cls.map (Value.int .i64)⟩ := rfl
          obtain ⟨c, hcq⟩ : ∃ c, s.cls[q.toNat]? = some c := ⟨_, List.getElem?_eq_getElem (by rw [HCL.out]; omega)⟩
          obtain ⟨gc, cc, hvc, cc1, _, _, cc4⟩ := HS.out.sw.fam.cell hcls (j := q.toNat) (x := .int .i64 c) (by rw [List.getElem?_map, hcq]; rfl)
          rw [List.length_map, HCL.out] at hvc
          rw [hvc] at s5
          have hgc : gI s.cls q.toNat = c := by unfold gI; rw [List.getD_eq_getElem?_getD, hcq]; rfl
          obtain ⟨A0, c0, hlk, hcs, hrow⟩ := HS.out.look HH.out c
          have hhl := Nat.le_trans (hitsOf_len s.cls (gath d x (U.take i) ++ L.take j) c) (HP.out j)
          have HGC := Lib.hid hgc; have HLK := Lib.hid hlk; have HCS := Lib.hid hcs; have HQ := Lib.hid hq
          obtain ⟨n, hmap⟩ := HS.out.map
          have HMP := Lib.hid hmap
          have HRW := Lib.hid (hrow.alloc (.cells #[.int .i64 q] 3))
          obtain ⟨hs, hhs⟩ : ∃ hs, hs = hitsOf s.cls (gath d x (U.take i) ++ L.take j) c := ⟨_, rfl⟩
          have HHS := Lib.hid hhs
          rw [← hhs] at HLK HCS HRW hhl
          have HSA := Lib.hid (HS.out.alloc (.cells #[.int .i64 q] 3))
          clear hvl hq hbk hcls hcq hvc hgc hlk hcs hrow hmap hhs
          go_wp2_with (first
            | (at_lookup; go_must (refine wpList_look _ rfl (.tmp 53) (.tmp 54) 153 rfl keys3 Try.underlying153 (zeroAt22 _) gm n (fun c => (H c).map Prod.fst) rfl HMP.out c rfl (.slice A0 hs.length c0) HLK.out ?_))
            | (at_builtin; go_must (refine wpList_append_own_at _ rfl (.tmp 55) (.tmp 57) 22 rfl w.heap.size 3 i3 (.int .i64 0) 1 8 Try.underlying22 HI3.out HZ3.out HS3.out HB3.out rfl (by omega) (.slice A0 hs.length c0) hs.length (hs.map (Value.int .i64)) rfl HRW.out ⟨wr.heap.size, 0, none⟩ 1 1 [.int .i64 q] rfl rfl (World.news_of_block (cs := #[.int .i64 q]) (t := 3) (fr := (0, 0)) (heap_alloc_new wr _)) ?c2 ?c3 ?c4 ?c5 ?_)))
          case c2 => rfl
          case c3 => unfold maxLen; omega
          case c4 => omega
          case c5 => have := HS.out.sw.bel.size; simp; omega
          intro v1 w5 hown hgr _ hat
          obtain ⟨A1, c1, rfl⟩ := own_form hown
          obtain ⟨k1, k2, k3⟩ := HSA.out.hit HCS.out hown hgr (hat.imp id (fun h => h.trans (by simp)))
          have K1 := Lib.hid k1; have K2 := Lib.hid k2; have K3 := Lib.hid k3
          obtain ⟨n3, m3⟩ := k3
          have M3 := Lib.hid m3
          clear hown hgr hat k1 k2 m3 s0 s4 s5 s6 s7 hsl b0 hbl cl1 cl4 cc1 cc4
          go_wp2_with (at_mapUpdate; go_must (refine wpList_store _ rfl (.tmp 51) (.tmp 52) (.tmp 58) 153 rfl keys3 Try.underlying153 gm n3 (fun c => (H c).map Prod.fst) rfl M3.out c (.slice A1 (hs.length + 1) c1) rfl rfl ?_))
          intro w6 hm6 ht6
          have HNW : Hid (BW w w6 d An cn Aa ca gs s gb gm (fun y => if y = c then some (.slice A1 (hs.length + 1) c1, hs ++ [q]) else H y)) :=
            BW.mapped K1.out K2.out K3.out (hm6.ext (fun y => by by_cases e : y = c <;> simp [e])) ht6 HS.out.bb HS.out.bm
          have HHN : Hid (HitsAre s.cls (gath d x (U.take i) ++ L.take (j + 1)) (fun y => if y = c then some (.slice A1 (hs.length + 1) c1, hs ++ [q]) else H y)) := by
            show HitsAre _ _ _
            rw [take_snoc HQ.out, ← List.append_assoc, HHS.out]
            exact HH.out.add HGC.out
          clear hm6 ht6
          go_wp2_with fail
          go_roundw
          case rel => exact ⟨j + 1, _, by go_num, by omega, HHN, HNW⟩
          case measure => simp [intOf]; omega
        · have HHN : Hid (HitsAre s.cls (gath d x (U.take (i + 1))) H) := by
            have h := HH.out
            rw [show L.take j = L from List.take_of_length_le (by omega), ← HGN.out] at h
            exact h
          go_wp2_with fail
          go_roundw
          case rel => exact ⟨i + 1, H, by go_num, by omega, HHN, HS⟩
          case measure => simp [intOf]; omega
    · have HHA : Hid (HitsAre s.cls (gath d x U) H) := by
        have h := HH.out
        rwa [List.take_of_length_le (by omega)] at h
      obtain ⟨n, hmap⟩ := HS.out.map
      have HMP := Lib.hid hmap
      clear HH hmap
      go_wp2_with (at_range; go_must (refine wpList_rangeF _ rfl (.tmp 61) 153 rfl keys3.inj Try.underlying153 gm n (fun c => (H c).map Prod.fst) rfl HMP.out ?_))
      intro w1 cnt hrg hb1 hz1
      have HSW := Lib.hid (HS.out.sw.below hb1)
      have HBX := Lib.hid (blk_below HS.out.box hb1)
      have HRG : Hid (RngF w1 gm wr.heap.size n (Value.int .i64) (fun c => (H c).map Prod.fst) (fun c => (H c).isSome) cnt) := hrg
      have HRI : Hid (RInv d U x (fun c => (H c).map Prod.fst) { s with H := H } (hitsL s.cls (gath d x U)) (fun c => (H c).isSome)) :=
        ⟨fun c => by rw [← HHA.out.left c]; simp, HHA.out.ent, Splits.begin_ HWK.out HUS.out HBF.out (gath_ok HND.out)⟩
      have hbm := HS.out.bm
      have hbb := HS.out.bb
      have HGI : Hid (w.heap.size ≤ wr.heap.size) := HS.out.sw.bel.size
      have HLM : Hid (leftN d (({ s with H := H } : SS).M.map Prod.snd) (({ s with H := H } : SS).T.map Prod.snd) ≤ leftN d (s.M.map Prod.snd) (s.T.map Prod.snd)) := Nat.le_refl _
      have HSA : Hid (({ s with H := H } : SS).B = s.B ∧ ({ s with H := H } : SS).cur = s.cur) := ⟨rfl, rfl⟩
      generalize hs0 : ({ s with H := H } : SS) = s2 at HSW HRI HLM HSA
      generalize hl0 : (fun c => (H c).isSome) = left at HRG HRI
      generalize hf0 : (fun c => (H c).map Prod.fst) = f0 at HRG HRI
      generalize hitsL s.cls (gath d x U) = R at HRI
      generalize wr.heap.size = gi at HRG HGI ⊢
      clear HMP HS HHA hrg hb1 hz1 hs0 hf0 hl0 HBF HWK

      go_wp2_with fail
      go_loopw [12, 13, 14, 16, 86] (fun _ _ _ _ _ wr => ∃ (s2 : SS) (R : List (Int × List Int)) (left : Int → Bool) (cnt : Nat), Hid (SW w wr d An cn Aa ca gs s2) ∧ Hid (Blk wr gb 129 #[.pointer (some ⟨gs, 0, none⟩)]) ∧ Hid (RngF wr gm gi n (Value.int .i64) f0 left cnt) ∧ Hid (RInv d U x f0 s2 R left) ∧
          Hid (s2.B = s.B ∧ s2.cur = s.cur) ∧ Hid (leftN d (s2.M.map Prod.snd) (s2.T.map Prod.snd) ≤ leftN d (s.M.map Prod.snd) (s.T.map Prod.snd))) (fun _ _ _ _ _ wr => wr.rangeLeft gm gi)
      case atStart => exact ⟨s2, R, left, cnt, HSW, HBX, HRG, HRI, HSA, HLM⟩
      case round =>
        clear HSW HBX HRG HRI HSA HLM
        obtain ⟨s2, R, left, cnt, HSW, HBX, HRG, HRI, HSA, HLM⟩ := hrel
        go_wp2_with (at_next; go_must (refine wpList_nextF _ rfl (.tmp 62) rfl keys3.inj gm gi n f0 left cnt rfl HRG.out ?_ ?_))
        · intro hc0 hl0
          have HL0 := Lib.hid hl0
          clear hl0
          go_wp2_with fail
          go_returns
          have hR : R = [] := by
            cases R with
            | nil => rfl
            | cons p R => have := (HRI.out.left p.1).2 (by simp); rw [HL0.out] at this; cases this
          have hsp := HRI.out.spl
          rw [hR] at hsp
          exact ⟨{ s2 with H := fun _ => none }, rfl, HSW.out.noHits, rfl, HSA.out.2, HSA.out.1, hsp.end_.1, hsp.end_.2, HLM.out⟩
        · intro c v w2 cnt2 hlc hfv hrg2 hlt2 ht2 hz2 hen
          have HSW2 := Lib.hid (HSW.out.iter HRG.out ht2 HGI.out)
          have HBX2 : Hid (Blk w2 gb 129 #[.pointer (some ⟨gs, 0, none⟩)]) := HBX.out.touch ht2 fun e => (HRG.out.ne_cells HBX.out).2 e.symm
          have HRG2 := Lib.hid hrg2
          have HLE : Hid (wr.rangeLeft gm gi = cnt) := HRG.out.left_eq
          have HLE2 : Hid (w2.rangeLeft gm gi = cnt2) := hrg2.left_eq
          obtain ⟨l, R', hHc, hl0, hri⟩ := HRI.out.take hlc hfv
          have HRI2 := Lib.hid hri
          have hrng := hri.spl.rng (c, l) (by simp)
          obtain ⟨hc0, hc1⟩ := hrng
          simp only [List.length_map] at hc0 hc1
          obtain ⟨Al, cl, rfl, hrowl⟩ := HSW2.out.hitRow hHc
          obtain ⟨Am, cm, ms, hMc, hrowm, hgM, go, co, hvm, m1, m2, m3, m4⟩ := HSW2.out.memRow (c := c.toNat) (by omega)
          obtain ⟨⟨s0, s4, s5, s6, s7⟩, hsl⟩ := HSW2.out.cells
          rw [hvm] at s6
          have b0 : w2.cell? ⟨gb, 0, none⟩ = some (.pointer (some ⟨gs, 0, none⟩)) := by rw [HBX2.out.cell]; rfl
          have hbl := HBX2.out.lt
          have HHC := Lib.hid hHc; have HRL := Lib.hid hrowl; have HMC := Lib.hid hMc; have HRM := Lib.hid hrowm; have HGM := Lib.hid hgM; have HVM := Lib.hid hvm; have HL0 := Lib.hid hl0
          clear HSW HBX HRG HRI hrg2 ht2 hz2 hri hHc hrowl hMc hrowm hgM hvm hfv hlc hl0
          by_cases heq : l.length = ms.length
          · have HSK := Lib.hid (HRI2.out.skip (by rw [HGM.out]; exact heq))
            have hq : (((l.length : Nat) : Int) == ((ms.length : Nat) : Int)) = true := by simp [heq]
            clear heq
            go_wp2_with fail
            go_roundw
            case rel => exact ⟨s2, R', _, cnt2, HSW2, HBX2, HRG2, HSK, HSA, HLM⟩
            case measure => rw [HLE.out, HLE2.out]; exact hlt2
          · have HNE := Lib.hid heq
            have hq : (((l.length : Nat) : Int) == ((ms.length : Nat) : Int)) = false := by simp; omega
            clear heq
            have hgol : go < w2.heap.size := m4
            obtain ⟨nx, hnx⟩ : ∃ nx : Int, nx = ((s2.M.length : Nat) : Int) := ⟨_, rfl⟩
            have HNXT := Lib.hid hnx
            have HCL2 : Hid (s2.cls.length = d.A.length) := HRI2.out.spl.work.part.len
            have hA1 : 1 ≤ d.A.length := HOK.out.2.2.1
            obtain ⟨gc, cc, hvc, _, _, _, hgcl⟩ := HSW2.out.fam.cell (t := .cls) (e := 3) (v := s2.vc) (xs := s2.cls.map (Value.int .i64)) rfl (j := 0) (x := .int .i64 (gI s2.cls 0)) (by
              have := HCL2.out
              rw [List.getElem?_map, List.getElem?_eq_getElem (by omega)]
              unfold gI
              rw [List.getD_eq_getElem?_getD, List.getElem?_eq_getElem (by omega)]
              rfl)
            rw [List.length_map, HCL2.out] at hvc
            have HVC := Lib.hid hvc
            have HSW3 : Hid (SW w (w2.alloc (.cells #[.int .i64 nx] 3)) d An cn Aa ca gs { s2 with cls := setAll s2.cls (l.take 0) nx }) := HSW2.out.alloc (.cells #[.int .i64 nx] 3)
            have HBX3 := Lib.hid (HBX2.out.alloc (.cells #[.int .i64 nx] 3))
            have HRG3 := Lib.hid (HRG2.out.alloc (.cells #[.int .i64 nx] 3))
            have HGX := Lib.hid (Blk.new w2 3 #[.int .i64 nx])
            have HGNX : Hid (gc ≠ w2.heap.size) := by show _ ≠ _; omega
            have HMNX : Hid ((Value.slice Am ms.length cm).ownBlock ≠ some w2.heap.size) := fun e => by
              have := (HSW2.out.fam.lt HRM.out e).2
              omega
            have HHNX : Hid (w.heap.size ≤ w2.heap.size) := HSW2.out.bel.size
            have hMl : s2.M.length ≤ 65537 := by
              have h := HRI2.out.spl.work.part.fits
              rw [List.length_map] at h
              omega
            go_wp2_with fail
            rw [← hnx]
            clear hnx hvc hgcl s0 s4 s5 s6 s7 hsl b0 hbl m1 m2 m3 m4 hgol hq HBX2 HRG2
            generalize w2.heap.size = gx at HGX HGNX HMNX HHNX ⊢
            generalize w2.alloc (.cells #[.int .i64 nx] 3) = w3 at HSW3 HBX3 HRG3 HGX ⊢
            have hll : l.length ≤ 65536 := by
              have h1 := (HRI2.out.spl.hit (c, l) (by simp))
              have h2 := nodup_lt d.A.length (l.map Int.toNat) (by
                rw [List.Nodup, List.pairwise_map]
                refine List.Pairwise.imp_of_mem ?_ h1.nd
                intro a b ha hb hne e
                have g1 := ((h1.mem a).1 ha).1
                have g2 := ((h1.mem b).1 hb).1
                unfold inR at g1 g2
                omega) (by
                intro t ht
                obtain ⟨a, ha, rfl⟩ := List.mem_map.1 ht
                have g1 := ((h1.mem a).1 ha).1
                unfold inR at g1
                omega)
              simp at h2
              omega
            go_loopw [16, 86] (fun _ kI wr => ∃ k : Nat, kI = .int .i64 k ∧ k ≤ l.length ∧ Hid (SW w wr d An cn Aa ca gs { s2 with cls := setAll s2.cls (l.take k) nx }) ∧ Hid (Blk wr gb 129 #[.pointer (some ⟨gs, 0, none⟩)]) ∧ Hid (Blk wr gx 3 #[.int .i64 nx]) ∧ Hid (RngF wr gm gi n (Value.int .i64) f0 (fun y => left y && !decide (y = c)) cnt2)) (fun _ kI _ => l.length - (intOf kI).toNat)
            case atStart => exact ⟨0, rfl, Nat.zero_le _, HSW3, HBX3, HGX, HRG3⟩
            case round =>
              clear HSW3 HBX3 HGX HRG3
              obtain ⟨k, rfl, hkl, HSW3, HBX3, HGX, HRG3⟩ := hrel
              have hrl : ({ s2 with cls := setAll s2.cls (l.take k) nx } : SS).fam (.hit c) = some ⟨3, .slice Al l.length cl, l.map (Value.int .i64)⟩ := HRL.out
              obtain ⟨⟨s0, s4, s5, s6, s7⟩, hsl⟩ := HSW3.out.cells
              have s5' : wr.cell? ⟨gs, 5, none⟩ = some (.slice (some ⟨gc, 0, none⟩) d.A.length cc) := by rw [s5]; exact congrArg some HVC.out
              have b0 : wr.cell? ⟨gb, 0, none⟩ = some (.pointer (some ⟨gs, 0, none⟩)) := by rw [HBX3.out.cell]; rfl
              have x0 : wr.cell? ⟨gx, 0, none⟩ = some (.int .i64 nx) := by rw [HGX.out.cell]; rfl
              have hbl := HBX3.out.lt
              have hxl := HGX.out.lt
              by_cases hlt3 : k < l.length
              · obtain ⟨q, hq⟩ : ∃ q, l[k]? = some q := ⟨_, List.getElem?_eq_getElem hlt3⟩
                obtain ⟨gl, cl', hvl, cl1, _, _, cl4⟩ := HSW3.out.fam.cell hrl (j := k) (x := .int .i64 q) (by rw [List.getElem?_map, hq]; rfl)
                obtain ⟨rfl, rfl⟩ : Al = some ⟨gl, 0, none⟩ ∧ cl = cl' := by injection hvl with h1 _ h3; exact ⟨h1, h3⟩
                have hqr := (((HRI2.out.spl.hit (c, l) (by simp)).mem q).1 (List.mem_of_getElem? hq)).1
                unfold inR at hqr
                obtain ⟨hq0, hq1⟩ := hqr
                have hsl3 : (setAll s2.cls (l.take k) nx).length = d.A.length := by rw [setAll_len]; exact HCL2.out
                obtain ⟨gc', cc', hvc', cc1, cc2, _, cc4⟩ := HSW3.out.fam.cell (t := .cls) (e := 3) (v := s2.vc) (xs := (setAll s2.cls (l.take k) nx).map (Value.int .i64)) rfl (j := q.toNat) (x := .int .i64 (gI (setAll s2.cls (l.take k) nx) q.toNat)) (by
                  rw [List.getElem?_map, List.getElem?_eq_getElem (by omega)]
                  unfold gI
                  rw [List.getD_eq_getElem?_getD, List.getElem?_eq_getElem (by omega)]
                  rfl)
                have hge := hvc'.symm.trans HVC.out
                obtain rfl : gc' = gc := by injection hge with h1 _ _; injection h1 with h1; injection h1
                have HN := Lib.hid ((HSW3.out.drew).setCls HVC.out q.toNat nx)
                have HTK : Hid ((setAll s2.cls (l.take k) nx).set q.toNat nx = setAll s2.cls (l.take (k + 1)) nx) := by show _ = _; rw [take_snoc hq, setAll_snoc]
                have HBXN : Hid (Blk (wr.drew.setCell ⟨gc', q.toNat, none⟩ (.int .i64 nx)) gb 129 #[.pointer (some ⟨gs, 0, none⟩)]) := HBX3.out.drew.far (fun e => HSW3.out.ne (t := .cls) rfl HBX3.out (by decide) (by decide) (by show s2.vc.ownBlock = _; rw [HVC.out, e]; rfl)) _
                have HGXN : Hid (Blk (wr.drew.setCell ⟨gc', q.toNat, none⟩ (.int .i64 nx)) gx 3 #[.int .i64 nx]) := HGX.out.drew.far (Ne.symm HGNX.out) _
                have hgco : ∃ cur, wr.heap[gc']? = some (.cells cur 3 (0, 0)) := own_heap (HSW3.out.fam.own .cls _ rfl) (by show s2.vc.ownBlock = _; rw [HVC.out]; rfl)
                have HRGN : Hid (RngF (wr.drew.setCell ⟨gc', q.toNat, none⟩ (.int .i64 nx)) gm gi n (Value.int .i64) f0 (fun y => left y && !decide (y = c)) cnt2) := by
                  obtain ⟨cur, hcur⟩ := hgco
                  have h := HRG3.out.ne_cells hcur
                  exact HRG3.out.drew.touch ((Touch.refl (fun j => j = gc') wr.drew).setCell (p := ⟨gc', q.toNat, none⟩) (fun _ => rfl) _) h.1 h.2
                clear hq hvl hvc' hge hrl hgco s5
                go_wp2_with fail
                go_still_tail 7, (by kernel_rfl)
                change wpList _ _ _ _ _ wr.drew
                go_wp2_with fail
                go_roundw
                case rel => exact ⟨k + 1, by go_num, by omega, by rw [← HTK.out]; exact HN, HBXN, HGXN, HRGN⟩
                case measure => simp [intOf]; omega
              · have HSW4 : Hid (SW w wr d An cn Aa ca gs { s2 with cls := setAll s2.cls l nx }) := by
                  have h := HSW3.out
                  rwa [List.take_of_length_le (by omega)] at h
                clear HSW3 hrl s5
                have HRW4 : Hid (RW w wr d An cn Aa ca gs gb gm gi n f0 (fun y => left y && !decide (y = c)) cnt2 { s2 with cls := setAll s2.cls l nx }) := ⟨HSW4.out, HBX3.out, HRG3.out⟩
                obtain ⟨cls', hcls'⟩ : ∃ cls', cls' = setAll s2.cls l nx := ⟨_, rfl⟩
                have HCLS := Lib.hid hcls'
                rw [← hcls'] at HSW4 HRW4
                have HCL4 : Hid (cls'.length = d.A.length) := by show _ = _; rw [hcls', setAll_len]; exact HCL2.out
                obtain ⟨rest, hrest⟩ : ∃ r, r = ms.filter fun y => !(gI cls' y.toNat == nx) := ⟨_, rfl⟩
                have HRST := Lib.hid hrest
                have hcn : c.toNat < s2.M.length := by omega
                have hmm := HRI2.out.spl.work.part.mem c.toNat (by rw [List.length_map]; exact hcn)
                have hnd := HRI2.out.spl.work.part.nd c.toNat (by rw [List.length_map]; exact hcn)
                rw [HGM.out] at hmm hnd
                have hmsl : ms.length ≤ 65536 := by
                  have h2 := nodup_lt d.A.length (ms.map Int.toNat) (by
                    rw [List.Nodup, List.pairwise_map]
                    refine List.Pairwise.imp_of_mem ?_ hnd
                    intro a b ha hb hne e
                    have g1 := ((hmm a).1 ha).1
                    have g2 := ((hmm b).1 hb).1
                    unfold inR at g1 g2
                    omega) (by
                    intro t ht
                    obtain ⟨a, ha, rfl⟩ := List.mem_map.1 ht
                    have g1 := ((hmm a).1 ha).1
                    unfold inR at g1
                    omega)
                  simp at h2
                  omega
                have hrl : rest.length ≤ ms.length := by rw [hrest]; exact List.length_filter_le _ _
                have HOW : Hid (wr.ownsRow w.heap.size 3 1 (.slice Am ms.length cm) ms.length (ms.map (Value.int .i64))) := by
                  have h := HSW4.out.fam.own (.mem c.toNat) ⟨3, .slice Am ms.length cm, ms.map (Value.int .i64)⟩ HRM.out
                  simp only [List.length_map] at h
                  exact h
                have C128 : Hid (Calls Try.prog 128 #[.slice Am ms.length cm, .func (.func 129) #[] #[.pointer (some ⟨gb, 0, none⟩), .pointer (some ⟨gx, 0, none⟩)]] wr.drew fun e w' =>
                    e = .returned (.slice Am rest.length cm) ∧ w'.ownsRow w.heap.size 3 1 (.slice Am rest.length cm) rest.length (rest.map (Value.int .i64)) ∧ Touch (fun k => (Value.slice Am ms.length cm).ownBlock = some k) wr.drew w') := by
                  have h := deleteFunc_any 129 #[.pointer (some ⟨gb, 0, none⟩), .pointer (some ⟨gx, 0, none⟩)] (fun y => gI cls' y.toNat == nx) wr.drew w.heap.size Am cm ms (by omega) HOW.out
                    (predsOf HSW4.out.drew HBX3.out.drew HGX.out.drew HMC.out HCL4.out (fun y hy => ((hmm y).1 hy).1) HMNX.out) Try.enters129
                  unfold DelR at h
                  rw [← hrest] at h
                  exact h
                obtain ⟨go', co', hvo, m1, m2, m3, m4⟩ := HSW4.out.fam.cell (t := .om) (e := 22) (v := s2.vm) (xs := s2.M.map Prod.fst) rfl (j := c.toNat) (x := .slice Am ms.length cm) (by rw [List.getElem?_map, HMC.out]; rfl)
                have hge := hvo.symm.trans HVM.out
                obtain rfl : go' = go := by injection hge with h1 _ _; injection h1 with h1; injection h1
                have s6' : wr.cell? ⟨gs, 6, none⟩ = some (.slice (some ⟨go', 0, none⟩) s2.M.length co) := by rw [s6]; exact congrArg some HVM.out
                have hn1 : ¬ go' = gb := fun e => HSW4.out.ne (t := .om) rfl HBX3.out (by decide) (by decide) (by show s2.vm.ownBlock = _; rw [HVM.out, e]; rfl)
                have hn2 : ¬ go' = gs := fun e => HSW4.out.ne (t := .om) rfl HSW4.out.blk (by decide) (by decide) (by show s2.vm.ownBlock = _; rw [HVM.out, e]; rfl)
                have HMR : Hid (({ s2 with cls := cls' } : SS).fam (.mem c.toNat) = some ⟨3, .slice Am ms.length cm, ms.map (Value.int .i64)⟩) := HRM.out
                have HOR : Hid (({ s2 with cls := cls' } : SS).fam .om = some ⟨22, s2.vm, s2.M.map Prod.fst⟩) := rfl
                clear hmm hnd hvo hge hcls' hrest s6
                go_upto_region 22 with fail
                clear hlt3 hkl
                go_cut [111] (fun _ wx => Hid (RW w wx d An cn Aa ca gs gb gm gi n f0 (fun y => left y && !decide (y = c)) cnt2 { s2 with cls := cls', M := s2.M.set c.toNat (.slice Am rest.length cm, rest) }))
                case first =>
                  refine wp_region_peelF (S := fun w' => w'.cell? ⟨gb, 0, none⟩ = some (.pointer (some ⟨gs, 0, none⟩)) ∧ w'.cell? ⟨gs, 6, none⟩ = some (.slice (some ⟨go', 0, none⟩) s2.M.length co) ∧ w'.cell? ⟨go', c.toNat, none⟩ = some (.slice Am ms.length cm)) (List.cons_ne_nil _ _) (by kernel_rfl) (by kernel_rfl) (⟨b0, s6', m1⟩) (fun hHeld => ?_)
                  simp only [List.dropLast_cons_cons, List.dropLast_singleton, List.length_cons, List.length_nil, Nat.zero_add, Nat.reduceAdd]
                  refine wpAnyH_take (i := 0) (v := ?_) rfl (by kernel_rfl) (by kernel_rfl) (by kernel_rfl) (fun _ _ _ h => h) (Or.inl ⟨by rfl, ?_⟩) (by assumption) ?_
                  rotate_left 1
                  · intro w hSw; (try dsimp only at hSw); go_simp; first | done | with_reducible rfl
                  try simp only [Act.put]
                  refine wpAnyH_take (i := 1) (v := ?_) rfl (by kernel_rfl) (by kernel_rfl) (by kernel_rfl) (fun _ _ _ h => h) (Or.inl ⟨by rfl, ?_⟩) (by assumption) ?_
                  rotate_left 1
                  · intro w hSw; (try dsimp only at hSw); go_simp; first | done | with_reducible rfl
                  try simp only [Act.put]
                  refine wpAnyH_take (i := 2) (v := ?_) rfl (by kernel_rfl) (by kernel_rfl) (by kernel_rfl) (fun _ _ _ h => h) (Or.inl ⟨by rfl, ?_⟩) (by assumption) ?_
                  rotate_left 1
                  · intro w hSw; (try dsimp only at hSw); go_simp; first | done | with_reducible rfl
                  try simp only [Act.put]
                  refine wpAnyH_take (i := 3) (v := ?_) rfl (by kernel_rfl) (by kernel_rfl) (by kernel_rfl) (fun _ _ _ h => h) (Or.inl ⟨by rfl, ?_⟩) (by assumption) ?_
                  rotate_left 1
                  · intro w hSw; (try dsimp only at hSw); go_simp; first | done | with_reducible rfl
                  try simp only [Act.put]
                  refine wpAnyH_take (i := 4) (v := ?_) rfl (by kernel_rfl) (by kernel_rfl) (by kernel_rfl) (fun _ _ _ h => h) (Or.inl ⟨by rfl, ?_⟩) (by assumption) ?_
                  rotate_left 1
                  · intro w hSw; (try dsimp only at hSw); go_simp; first | done | with_reducible rfl
                  try simp only [Act.put]
                  refine wpAnyH_take (i := 5) (v := ?_) rfl (by kernel_rfl) (by kernel_rfl) (by kernel_rfl) (fun _ _ _ h => h) (Or.inl ⟨by rfl, ?_⟩) (by assumption) ?_
                  rotate_left 1
                  · intro w hSw; (try dsimp only at hSw); go_simp; first | done | with_reducible rfl
                  try simp only [Act.put]
                  refine wpAnyH_take (i := 6) (v := ?_) rfl (by kernel_rfl) (by kernel_rfl) (by kernel_rfl) (fun _ _ _ h => h) (Or.inl ⟨by rfl, ?_⟩) (by assumption) ?_
                  rotate_left 1
                  · intro w hSw; (try dsimp only at hSw); go_simp; first | done | with_reducible rfl
                  try simp only [Act.put]
                  refine wpAnyH_take (i := 7) (v := ?_) rfl (by kernel_rfl) (by kernel_rfl) (by kernel_rfl) (fun _ _ _ h => h) (Or.inl ⟨by rfl, ?_⟩) (by assumption) ?_
                  rotate_left 1
                  · intro w hSw; (try dsimp only at hSw); go_simp; first | done | with_reducible rfl
                  try simp only [Act.put]
                  refine wpAnyH_take (i := 8) (v := ?_) rfl (by kernel_rfl) (by kernel_rfl) (by kernel_rfl) (fun _ _ _ h => h) (Or.inl ⟨by rfl, ?_⟩) (by assumption) ?_
                  rotate_left 1
                  · intro w hSw; (try dsimp only at hSw); go_simp; first | done | with_reducible rfl
                  try simp only [Act.put]
                  refine wpAnyH_take (i := 9) (v := ?_) rfl (by kernel_rfl) (by kernel_rfl) (by kernel_rfl) (fun _ _ _ h => h) (Or.inl ⟨by rfl, ?_⟩) (by assumption) ?_
                  rotate_left 1
                  · intro w hSw; (try dsimp only at hSw); go_simp; first | done | with_reducible rfl
                  try simp only [Act.put]
                  refine wpAnyH_take (i := 10) (v := ?_) rfl (by kernel_rfl) (by kernel_rfl) (by kernel_rfl) (fun _ _ _ h => h) (Or.inl ⟨by rfl, ?_⟩) (by assumption) ?_
                  rotate_left 1
                  · intro w hSw; (try dsimp only at hSw); go_simp; first | done | with_reducible rfl
                  try simp only [Act.put]
                  refine wpAnyH_take (i := 11) (v := ?_) rfl (by kernel_rfl) (by kernel_rfl) (by kernel_rfl) (fun _ _ _ h => h) (Or.inl ⟨by rfl, ?_⟩) (by assumption) ?_
                  rotate_left 1
                  · intro w hSw; (try dsimp only at hSw); go_simp; first | done | with_reducible rfl
                  try simp only [Act.put]
                  refine wpAnyH_take (i := 12) (v := ?_) rfl (by kernel_rfl) (by kernel_rfl) (by kernel_rfl) (fun _ _ _ h => h) (Or.inl ⟨by rfl, ?_⟩) (by assumption) ?_
                  rotate_left 1
                  · intro w hSw; (try dsimp only at hSw); go_simp; first | done | with_reducible rfl
                  try simp only [Act.put]
                  refine wpAnyH_ready (rs := [13]) (by kernel_rfl) (by simp) (AllReadyH.cons rfl (fun K hK => ?_) AllReadyH.nil)
                  go_simp
                  go_at_call 128
                  refine (C128.out).mono ?_
                  rintro e w5 ⟨rfl, ho5, ht5⟩
                  have HF5 := Lib.hid (HRW4.out.drew.memCut HMC.out ho5 ht5 HVM.out)
                  have k0 : w5.cell? ⟨gb, 0, none⟩ = some (.pointer (some ⟨gs, 0, none⟩)) := by
                    rw [(HBX3.out.drew.touch ht5 (fun e => HSW4.out.ne HMR.out HBX3.out (by decide) (by decide) e)).cell]; rfl
                  have k6 : w5.cell? ⟨gs, 6, none⟩ = some (.slice (some ⟨go', 0, none⟩) s2.M.length co) := by
                    rw [← s6']
                    exact World.cell?_of_block (a := ⟨gs, 6, none⟩) (ht5.block gs hsl (fun e => HSW4.out.ne HMR.out HSW4.out.blk (by decide) (by decide) e))
                  have kb := ht5.block go' m4 (fun e => HSW4.out.fam.sep (.mem c.toNat) .om _ _ go' (by simp) HMR.out HOR.out e (by rw [HVM.out]; rfl))
                  have kc : w5.cell? ⟨go', c.toNat, none⟩ = some (.slice Am ms.length cm) := by rw [← m1]; exact World.cell?_of_block (a := ⟨go', c.toNat, none⟩) kb
                  have kz : w5.frozen? ⟨go', c.toNat, none⟩ = false := by rw [← m2]; exact World.frozen?_of_block (a := ⟨go', c.toNat, none⟩) kb
                  have kl : go' < w5.heap.size := Nat.lt_of_lt_of_le m4 ht5.size
                  clear ho5 ht5 kb
                  refine hK.out _ _ (⟨k0, k6, kc⟩) (fun hHeld => ?_)
                  clear hK K
                  try simp only [Act.put]
                  refine wpAnyH_take (i := 14) (v := ?_) rfl (by kernel_rfl) (by kernel_rfl) (by kernel_rfl) (fun _ _ _ h => h) (Or.inl ⟨by rfl, ?_⟩) (by assumption) ?_
                  rotate_left 1
                  · intro w hSw; (try dsimp only at hSw); go_simp; first | done | with_reducible rfl
                  try simp only [Act.put]
                  refine wpAnyH_done (by kernel_rfl) ?_ _
                  clear hHeld
                  show Oper.wp _ _ _ _ _ _
                  go_simp
                  go_wp2_with fail
                  go_meet
                  case rel => exact HF5
                case rest =>
                  have HRW5 := hcut
                  clear hcut HRW4 C128 HOW HMR HOR HBX3 HGX HRG3 s0 s4 s6' s7 s5' hsl b0 x0 hbl hxl m1 m2 m3 m4 hn1 hn2 HSW4
                  obtain ⟨s5, hs5⟩ : ∃ s5 : SS, s5 = { s2 with cls := cls', M := s2.M.set c.toNat (.slice Am rest.length cm, rest) } := ⟨_, rfl⟩
                  rw [← hs5] at HRW5
                  have HM5 : Hid (s5.M = s2.M.set c.toNat (.slice Am rest.length cm, rest)) := by show _ = _; rw [hs5]
                  have HV5 : Hid (s5.vm = .slice (some ⟨go', 0, none⟩) s2.M.length co) := by show _ = _; rw [hs5]; exact HVM.out
                  have HH5 : Hid (s5.H c = some (.slice Al l.length cl, l)) := by show _ = _; rw [hs5]; exact HHC.out
                  have HL5 : Hid (s5.M.length = s2.M.length) := by show _ = _; rw [HM5.out, List.length_set]
                  have HS5 := Lib.hid hs5
                  have hom5 : s5.fam .om = some ⟨22, .slice (some ⟨go', 0, none⟩) s2.M.length co, s5.M.map Prod.fst⟩ := by rw [← HV5.out]; rfl
                  have HOW5 : Hid (wc.ownsRow w.heap.size 22 1 (.slice (some ⟨go', 0, none⟩) s2.M.length co) s2.M.length (s5.M.map Prod.fst)) := by
                    have h := HRW5.out.sw.fam.own _ _ hom5
                    simp only [List.length_map, HL5.out] at h
                    exact h
                  obtain ⟨⟨s0, s4, s5', s6, s7⟩, hsl⟩ := HRW5.out.sw.cells
                  rw [HV5.out] at s6
                  have b0 : wc.cell? ⟨gb, 0, none⟩ = some (.pointer (some ⟨gs, 0, none⟩)) := by rw [HRW5.out.box.cell]; rfl
                  have hbl := HRW5.out.box.lt
                  have hgob : go' ≠ gb := fun e => HRW5.out.sw.ne hom5 HRW5.out.box (by decide) (by decide) (by rw [e]; rfl)
                  have hgos : go' ≠ gs := fun e => HRW5.out.sw.ne hom5 HRW5.out.sw.blk (by decide) (by decide) (by rw [e]; rfl)
                  have HGOB := Lib.hid hgob; have HGOS := Lib.hid hgos
                  obtain ⟨i22, hi, hz, hs2, hb2⟩ := info_parts Try.info22
                  have HI2 := Lib.hid hi; have HZ2 := Lib.hid hz; have HS2 := Lib.hid hs2; have HB2 := Lib.hid hb2
                  clear hi hz hs2 hb2 hom5 hgob hgos hs5 s4 s5' s7 s0
                  go_upto_region 23 with fail
                  go_cut [120] (fun _ wx => ∃ g' c' : Nat, Hid (RW w wx d An cn Aa ca gs gb gm gi n f0 (fun y => left y && !decide (y = c)) cnt2 { s5 with vm := .slice (some ⟨g', 0, none⟩) (s5.M.length + 1) c', M := s5.M ++ [(.slice Al l.length cl, l)], H := fun y => if y = c then none else s5.H y }))
                  case first =>
                    refine wp_region_peelF (S := fun w' => w'.cell? ⟨gb, 0, none⟩ = some (.pointer (some ⟨gs, 0, none⟩)) ∧ w'.cell? ⟨gs, 6, none⟩ = some (.slice (some ⟨go', 0, none⟩) s2.M.length co)) (List.cons_ne_nil _ _) (by kernel_rfl) (by kernel_rfl) (⟨b0, s6⟩) (fun hHeld => ?_)
                    simp only [List.dropLast_cons_cons, List.dropLast_singleton, List.length_cons, List.length_nil, Nat.zero_add, Nat.reduceAdd]
                    refine wpAnyH_take (i := 0) (v := ?_) rfl (by kernel_rfl) (by kernel_rfl) (by kernel_rfl) (fun _ _ _ h => h) (Or.inl ⟨by rfl, ?_⟩) (by assumption) ?_
                    rotate_left 1
                    · intro w hSw; (try dsimp only at hSw); go_simp; first | done | with_reducible rfl
                    try simp only [Act.put]
                    refine wpAnyH_take (i := 1) (v := ?_) rfl (by kernel_rfl) (by kernel_rfl) (by kernel_rfl) (fun _ _ _ h => h) (Or.inl ⟨by rfl, ?_⟩) (by assumption) ?_
                    rotate_left 1
                    · intro w hSw; (try dsimp only at hSw); go_simp; first | done | with_reducible rfl
                    try simp only [Act.put]
                    refine wpAnyH_take (i := 2) (v := ?_) rfl (by kernel_rfl) (by kernel_rfl) (by kernel_rfl) (fun _ _ _ h => h) (Or.inl ⟨by rfl, ?_⟩) (by assumption) ?_
                    rotate_left 1
                    · intro w hSw; (try dsimp only at hSw); go_simp; first | done | with_reducible rfl
                    try simp only [Act.put]
                    refine wpAnyH_take (i := 3) (v := ?_) rfl (by kernel_rfl) (by kernel_rfl) (by kernel_rfl) (fun _ _ _ h => h) (Or.inl ⟨by rfl, ?_⟩) (by assumption) ?_
                    rotate_left 1
                    · intro w hSw; (try dsimp only at hSw); go_simp; first | done | with_reducible rfl
                    try simp only [Act.put]
                    refine wpAnyH_take (i := 4) (v := ?_) rfl (by kernel_rfl) (by kernel_rfl) (by kernel_rfl) (fun _ _ _ h => h) (Or.inl ⟨by rfl, ?_⟩) (by assumption) ?_
                    rotate_left 1
                    · intro w hSw; (try dsimp only at hSw); go_simp; first | done | with_reducible rfl
                    try simp only [Act.put]
                    refine wpAnyH_take (i := 5) (v := ?_) rfl (by kernel_rfl) (by kernel_rfl) (by kernel_rfl) (fun _ _ _ h => h) (Or.inl ⟨by rfl, ?_⟩) (by assumption) ?_
                    rotate_left 1
                    · intro w hSw; (try dsimp only at hSw); go_simp; first | done | with_reducible rfl
                    try simp only [Act.put]
                    refine wpAnyH_ready (rs := [6]) (by kernel_rfl) (by simp) (AllReadyH.cons rfl (fun K hK => ?_) AllReadyH.nil)
                    go_simp
                    refine hK.out _ _ (⟨(World.cell?_alloc_lt wc _ ⟨gb, 0, none⟩ hbl).trans b0, (World.cell?_alloc_lt wc _ ⟨gs, 6, none⟩ hsl).trans s6⟩) (fun hHeld => ?_)
                    clear hK K
                    try simp only [Act.put]
                    refine wpAnyH_ready (rs := [7]) (by kernel_rfl) (by simp) (AllReadyH.cons rfl (fun K hK => ?_) AllReadyH.nil)
                    refine step_append_lies _ (by rfl) _ _ _ (by rfl) w.heap.size 22 i22 _ 1 24 Try.underlying131 HI2.out HZ2.out HS2.out HB2.out rfl (by omega) (.slice (some ⟨go', 0, none⟩) s2.M.length co) s2.M.length (s5.M.map Prod.fst) (by rfl) (HOW5.out.alloc (.cells #[.slice Al l.length cl] 22)).drew ⟨wc.heap.size, 0, none⟩ 1 1 [.slice Al l.length cl] (by rfl) (by simp) (World.news_of_block (cs := #[.slice Al l.length cl]) (t := 22) (fr := (0, 0)) (heap_alloc_new wc _)) (by intro u hu; rw [List.mem_singleton.1 hu]; rfl) (by omega) (by unfold maxLen; omega) (by omega) (by have := HRW5.out.sw.bel.size; simp; omega) _ rfl ?_
                    intro g' c' w6 hown6 hgr6 hat6 hlt6
                    have HF6 : Hid (RW w (w6.setCell ⟨gs, 6, none⟩ (.slice (some ⟨g', 0, none⟩) (s5.M.length + 1) c')) d An cn Aa ca gs gb gm gi n f0 (fun y => left y && !decide (y = c)) cnt2 { s5 with vm := .slice (some ⟨g', 0, none⟩) (s5.M.length + 1) c', M := s5.M ++ [(.slice Al l.length cl, l)], H := fun y => if y = c then none else s5.H y }) :=
                      (HRW5.out.alloc (.cells #[.slice Al l.length cl] 22)).drew.memPush HH5.out (by rw [HL5.out]; exact hown6) (by rw [HV5.out]; exact hgr6) (by rw [HV5.out]; exact hat6.imp id (fun h => h.trans (by simp)))
                    have k0 : w6.cell? ⟨gb, 0, none⟩ = some (.pointer (some ⟨gs, 0, none⟩)) := (hgr6.cell_far ⟨gb, 0, none⟩ (by simp; omega) (fun e => HGOB.out (by injection e with e; exact e.symm))).trans ((World.cell?_alloc_lt wc _ ⟨gb, 0, none⟩ hbl).trans b0)
                    have k6 : w6.cell? ⟨gs, 6, none⟩ = some (.slice (some ⟨go', 0, none⟩) s2.M.length co) := (hgr6.cell_far ⟨gs, 6, none⟩ (by simp; omega) (fun e => HGOS.out (by injection e with e; exact e.symm))).trans ((World.cell?_alloc_lt wc _ ⟨gs, 6, none⟩ hsl).trans s6)
                    have kz : w6.frozen? ⟨gs, 6, none⟩ = false := (hgr6.frozen_far ⟨gs, 6, none⟩ (by simp; omega) (fun e => HGOS.out (by injection e with e; exact e.symm))).trans ((HRW5.out.sw.blk.alloc (.cells #[.slice Al l.length cl] 22)).frozen 6)
                    have kl : gs < w6.heap.size := Nat.lt_of_lt_of_le (by simp; omega) hgr6.size
                    rw [HL5.out] at HF6
                    clear hown6 hgr6 hat6 hlt6
                    refine hK.out _ _ (⟨k0, k6⟩) (fun hHeld => ?_)
                    clear hK K
                    try simp only [Act.put]
                    refine wpAnyH_take (i := 8) (v := ?_) rfl (by kernel_rfl) (by kernel_rfl) (by kernel_rfl) (fun _ _ _ h => h) (Or.inl ⟨by rfl, ?_⟩) (by assumption) ?_
                    rotate_left 1
                    · intro w hSw; (try dsimp only at hSw); go_simp; first | done | with_reducible rfl
                    try simp only [Act.put]
                    refine wpAnyH_take (i := 9) (v := ?_) rfl (by kernel_rfl) (by kernel_rfl) (by kernel_rfl) (fun _ _ _ h => h) (Or.inl ⟨by rfl, ?_⟩) (by assumption) ?_
                    rotate_left 1
                    · intro w hSw; (try dsimp only at hSw); go_simp; first | done | with_reducible rfl
                    try simp only [Act.put]
                    refine wpAnyH_done (by kernel_rfl) ?_ _
                    clear hHeld
                    show Oper.wp _ _ _ _ _ _
                    go_simp
                    go_wp2_with fail
                    go_meet
                    case rel => exact ⟨g', c', by rw [HL5.out]; exact HF6⟩
                  case rest =>
                    obtain ⟨g6, c6, HRW6⟩ := hcut
                    obtain ⟨s6, hs6⟩ : ∃ t : SS, t = { s5 with vm := .slice (some ⟨g6, 0, none⟩) (s5.M.length + 1) c6, M := s5.M ++ [(.slice Al l.length cl, l)], H := fun y => if y = c then none else s5.H y } := ⟨_, rfl⟩
                    rw [← hs6] at HRW6
                    have HS6 := Lib.hid hs6
                    have HV6 : Hid (s6.vm = .slice (some ⟨g6, 0, none⟩) (s2.M.length + 1) c6) := by show _ = _; rw [hs6, ← HL5.out]
                    have HM6 : Hid (s6.M = s5.M ++ [(.slice Al l.length cl, l)]) := by show _ = _; rw [hs6]
                    have HT6 : Hid (s6.T = s2.T) := by show _ = _; rw [hs6, HS5.out]
                    have hMr : s6.M[c.toNat]? = some (.slice Am rest.length cm, rest) := by
                      rw [HM6.out, List.getElem?_append_left (by rw [HL5.out]; omega), HM5.out, List.getElem?_set_self hcn]
                    have hMl6 : s6.M[s2.M.length]? = some (.slice Al l.length cl, l) := by
                      rw [HM6.out, List.getElem?_append_right (by rw [HL5.out]; omega), HL5.out, Nat.sub_self]; rfl
                    have HMR6 : Hid (s6.fam (.mem c.toNat) = some ⟨3, .slice Am rest.length cm, rest.map (Value.int .i64)⟩) := by show _ = _; simp [SS.fam, hMr, rI]
                    have HML6 : Hid (s6.fam (.mem s2.M.length) = some ⟨3, .slice Al l.length cl, l.map (Value.int .i64)⟩) := by show _ = _; simp [SS.fam, hMl6, rI]
                    have HRD := Lib.hid HRW6.out.drew
                    have hfot : s6.fam .ot = some ⟨22, s6.vt, s6.T.map Prod.fst⟩ := rfl
                    obtain ⟨At, ct, hvt⟩ := HRD.out.sw.fam.form hfot
                    rw [List.length_map] at hvt
                    have HVT := Lib.hid hvt
                    have HOT : Hid (s6.fam .ot = some ⟨22, .slice At s6.T.length ct, s6.T.map Prod.fst⟩) := by show _ = _; rw [← hvt]; rfl
                    have HTL : Hid (s6.T.length ≤ 2000000) := by
                      show _ ≤ _
                      rw [HT6.out]
                      have h1 := HLM.out
                      unfold leftN at h1 hlim
                      simp only [List.length_map] at h1 hlim
                      omega
                    have HRL6 : Hid (wc.drew.ownsRow w.heap.size 3 1 (.slice Al l.length cl) l.length (l.map (Value.int .i64))) := by
                      have h := HRD.out.sw.fam.own _ _ HML6.out
                      simp only [List.length_map] at h
                      exact h
                    have HB0 : Hid (w.heap.size ≤ wc.drew.heap.size) := HRD.out.sw.bel.size
                    have HBT : Hid (∀ t r k, s6.fam t = some r → r.v.ownBlock = some k → k < wc.drew.heap.size) := fun t r k hr hk => (HRD.out.sw.fam.lt hr hk).2
                    have hcel : ∀ w' : World, RW w w' d An cn Aa ca gs gb gm gi n f0 (fun y => left y && !decide (y = c)) cnt2 s6 → (w'.cell? ⟨gb, 0, none⟩ = some (.pointer (some ⟨gs, 0, none⟩)) ∧ w'.cell? ⟨gs, 7, none⟩ = some (.slice At s6.T.length ct) ∧ w'.cell? ⟨gs, 6, none⟩ = some (.slice (some ⟨g6, 0, none⟩) (s2.M.length + 1) c6) ∧ w'.cell? ⟨g6, c.toNat, none⟩ = some (.slice Am rest.length cm)) ∧ gb < w'.heap.size ∧ gs < w'.heap.size ∧ g6 < w'.heap.size := fun w' h => by
                      obtain ⟨⟨_, _, _, t6, t7⟩, tl⟩ := h.sw.cells
                      rw [HV6.out] at t6
                      rw [HVT.out] at t7
                      obtain ⟨go9, co9, hv9, n1, _, _, n4⟩ := h.sw.fam.cell (t := .om) (e := 22) (v := s6.vm) (xs := s6.M.map Prod.fst) rfl (j := c.toNat) (x := .slice Am rest.length cm) (by rw [List.getElem?_map, hMr]; rfl)
                      have hge := hv9.symm.trans HV6.out
                      obtain rfl : go9 = g6 := by injection hge with h1 _ _; injection h1 with h1; injection h1
                      exact ⟨⟨by rw [h.box.cell]; rfl, t7, t6, n1⟩, h.box.lt, tl, n4⟩
                    have HCEL := Lib.hid hcel
                    obtain ⟨⟨q0, q7, q6, qc⟩, _⟩ := hcel _ HRD.out
                    have hcI : c < ((s2.M.length : Nat) : Int) + 1 := by omega
                    clear hs6 hMr hMl6 hfot hvt hcel HRW5
                    go_upto_region 24 with fail
                    refine wp_region_peelF (S := fun w' => w'.cell? ⟨gb, 0, none⟩ = some (.pointer (some ⟨gs, 0, none⟩)) ∧ w'.cell? ⟨gs, 7, none⟩ = some (.slice At s6.T.length ct) ∧ w'.cell? ⟨gs, 6, none⟩ = some (.slice (some ⟨g6, 0, none⟩) (s2.M.length + 1) c6) ∧ w'.cell? ⟨g6, c.toNat, none⟩ = some (.slice Am rest.length cm)) (List.cons_ne_nil _ _) (by kernel_rfl) (by kernel_rfl) (⟨q0, q7, q6, qc⟩) (fun hHeld => ?_)
                    simp only [List.dropLast_cons_cons, List.dropLast_singleton, List.length_cons, List.length_nil, Nat.zero_add, Nat.reduceAdd]
                    refine wpAnyH_take (i := 0) (v := ?_) rfl (by kernel_rfl) (by kernel_rfl) (by kernel_rfl) (fun _ _ _ h => h) (Or.inl ⟨by rfl, ?_⟩) (by assumption) ?_
                    rotate_left 1
                    · intro w hSw; (try dsimp only at hSw); go_simp; first | done | with_reducible rfl
                    try simp only [Act.put]
                    refine wpAnyH_take (i := 1) (v := ?_) rfl (by kernel_rfl) (by kernel_rfl) (by kernel_rfl) (fun _ _ _ h => h) (Or.inl ⟨by rfl, ?_⟩) (by assumption) ?_
                    rotate_left 1
                    · intro w hSw; (try dsimp only at hSw); go_simp; first | done | with_reducible rfl
                    try simp only [Act.put]
                    refine wpAnyH_take (i := 2) (v := ?_) rfl (by kernel_rfl) (by kernel_rfl) (by kernel_rfl) (fun _ _ _ h => h) (Or.inl ⟨by rfl, ?_⟩) (by assumption) ?_
                    rotate_left 1
                    · intro w hSw; (try dsimp only at hSw); go_simp; first | done | with_reducible rfl
                    try simp only [Act.put]
                    refine wpAnyH_take (i := 3) (v := ?_) rfl (by kernel_rfl) (by kernel_rfl) (by kernel_rfl) (fun _ _ _ h => h) (Or.inl ⟨by rfl, ?_⟩) (by assumption) ?_
                    rotate_left 1
                    · intro w hSw; (try dsimp only at hSw); go_simp; first | done | with_reducible rfl
                    try simp only [Act.put]
                    refine wpAnyH_take (i := 4) (v := ?_) rfl (by kernel_rfl) (by kernel_rfl) (by kernel_rfl) (fun _ _ _ h => h) (Or.inl ⟨by rfl, ?_⟩) (by assumption) ?_
                    rotate_left 1
                    · intro w hSw; (try dsimp only at hSw); go_simp; first | done | with_reducible rfl
                    try simp only [Act.put]
                    refine wpAnyH_take (i := 5) (v := ?_) rfl (by kernel_rfl) (by kernel_rfl) (by kernel_rfl) (fun _ _ _ h => h) (Or.inl ⟨by rfl, ?_⟩) (by assumption) ?_
                    rotate_left 1
                    · intro w hSw; (try dsimp only at hSw); go_simp; first | done | with_reducible rfl
                    try simp only [Act.put]
                    refine wpAnyH_take (i := 7) (v := ?_) rfl (by kernel_rfl) (by kernel_rfl) (by kernel_rfl) (fun _ _ _ h => h) (Or.inl ⟨by rfl, ?_⟩) (by assumption) ?_
                    rotate_left 1
                    · intro w hSw; (try dsimp only at hSw); go_simp; first | done | with_reducible rfl
                    try simp only [Act.put]
                    refine wpAnyH_take (i := 8) (v := ?_) rfl (by kernel_rfl) (by kernel_rfl) (by kernel_rfl) (fun _ _ _ h => h) (Or.inl ⟨by rfl, ?_⟩) (by assumption) ?_
                    rotate_left 1
                    · intro w hSw; (try dsimp only at hSw); go_simp; first | done | with_reducible rfl
                    try simp only [Act.put]
                    refine wpAnyH_take (i := 9) (v := ?_) rfl (by kernel_rfl) (by kernel_rfl) (by kernel_rfl) (fun _ _ _ h => h) (Or.inl ⟨by rfl, ?_⟩) (by assumption) ?_
                    rotate_left 1
                    · intro w hSw; (try dsimp only at hSw); go_simp; first | done | with_reducible rfl
                    try simp only [Act.put]
                    refine wpAnyH_take (i := 10) (v := ?_) rfl (by kernel_rfl) (by kernel_rfl) (by kernel_rfl) (fun _ _ _ h => h) (Or.inl ⟨by rfl, ?_⟩) (by assumption) ?_
                    rotate_left 1
                    · intro w hSw; (try dsimp only at hSw); go_simp; first | done | with_reducible rfl
                    try simp only [Act.put]
                    refine wpAnyH_take (i := 11) (v := ?_) rfl (by kernel_rfl) (by kernel_rfl) (by kernel_rfl) (fun _ _ _ h => h) (Or.inl ⟨by rfl, ?_⟩) (by assumption) ?_
                    rotate_left 1
                    · intro w hSw; (try dsimp only at hSw); go_simp; first | done | with_reducible rfl
                    try simp only [Act.put]
                    refine wpAnyH_take (i := 12) (v := ?_) rfl (by kernel_rfl) (by kernel_rfl) (by kernel_rfl) (fun _ _ _ h => h) (Or.inl ⟨by rfl, ?_⟩) (by assumption) ?_
                    rotate_left 1
                    · intro w hSw; (try dsimp only at hSw); go_simp; first | done | with_reducible rfl
                    try simp only [Act.put]
                    refine wpAnyH_take (i := 13) (v := ?_) rfl (by kernel_rfl) (by kernel_rfl) (by kernel_rfl) (fun _ _ _ h => h) (Or.inl ⟨by rfl, ?_⟩) (by assumption) ?_
                    rotate_left 1
                    · intro w hSw; (try dsimp only at hSw); go_simp; first | done | with_reducible rfl
                    try simp only [Act.put]
                    refine wpAnyH_ready (rs := [6]) (by kernel_rfl) (by simp) (AllReadyH.cons rfl (fun K hK => ?_) AllReadyH.nil)
                    go_simp
                    go_at_call 83
                    refine (cloneOwn l (.slice Al l.length cl) _ w.heap.size (by omega) HRL6.out).mono ?_
                    rintro e w7 ⟨A1, c1, rfl, ho1, hb1⟩
                    have HR7 := Lib.hid (HRD.out.below hb1)
                    have HO1 := Lib.hid ho1
                    have HSZ7 : Hid (wc.drew.heap.size ≤ w7.heap.size) := hb1.size
                    have HB3 : Hid (∀ k, (Value.slice A1 l.length c1).ownBlock = some k → k < w7.heap.size) := fun k hk => (ho1.lt k hk).2
                    have HRR7 : Hid (w7.ownsRow w.heap.size 3 1 (.slice Am rest.length cm) rest.length (rest.map (Value.int .i64))) := by
                      have h := HR7.out.sw.fam.own _ _ HMR6.out
                      simp only [List.length_map] at h
                      exact h
                    obtain ⟨hk7, _⟩ := HCEL.out _ HR7.out
                    clear ho1 hb1
                    refine hK.out _ _ (hk7) (fun hHeld => ?_)
                    clear hK K
                    try simp only [Act.put]
                    refine wpAnyH_ready (rs := [14]) (by kernel_rfl) (by simp) (AllReadyH.cons rfl (fun K hK => ?_) AllReadyH.nil)
                    go_simp
                    go_at_call 83
                    refine (cloneOwn rest (.slice Am rest.length cm) _ w.heap.size (by omega) HRR7.out).mono ?_
                    rintro e w8 ⟨A2, c2, rfl, ho2, hb2⟩
                    have HR8 := Lib.hid (HR7.out.below hb2)
                    have HO1' := Lib.hid (own_below HO1.out hb2)
                    have HO2 := Lib.hid ho2
                    obtain ⟨hk8, _⟩ := HCEL.out _ HR8.out
                    have HR9 := Lib.hid (HR8.out.alloc (.cells #[.slice A1 l.length c1, .slice A2 rest.length c2] 22))
                    have HO1'' := Lib.hid (HO1'.out.alloc (.cells #[.slice A1 l.length c1, .slice A2 rest.length c2] 22))
                    have HO2'' := Lib.hid (HO2.out.alloc (.cells #[.slice A1 l.length c1, .slice A2 rest.length c2] 22))
                    obtain ⟨hk9, hl9b, hl9s, hl9g⟩ := HCEL.out _ HR9.out
                    have HOT9 : Hid ((w8.alloc (.cells #[.slice A1 l.length c1, .slice A2 rest.length c2] 22)).ownsRow w.heap.size 22 1 (.slice At s6.T.length ct) s6.T.length (s6.T.map Prod.fst)) := by
                      have h := HR9.out.sw.fam.own _ _ HOT.out
                      simp only [List.length_map] at h
                      exact h
                    have hsz9 : w.heap.size ≤ w8.heap.size := HR8.out.sw.bel.size
                    clear ho2 hb2
                    refine hK.out _ _ (hk8) (fun hHeld => ?_)
                    clear hK K
                    try simp only [Act.put]
                    refine wpAnyH_ready (rs := [15]) (by kernel_rfl) (by simp) (AllReadyH.cons rfl (fun K hK => ?_) AllReadyH.nil)
                    go_simp
                    refine hK.out _ _ (hk9) (fun hHeld => ?_)
                    clear hK K
                    try simp only [Act.put]
                    refine wpAnyH_ready (rs := [16]) (by kernel_rfl) (by simp) (AllReadyH.cons rfl (fun K hK => ?_) AllReadyH.nil)
                    refine step_append_lies _ (by rfl) _ _ _ (by rfl) w.heap.size 22 i22 _ 1 24 Try.underlying131 HI2.out HZ2.out HS2.out HB2.out rfl (by omega) (.slice At s6.T.length ct) s6.T.length (s6.T.map Prod.fst) (by rfl) HOT9.out ⟨w8.heap.size, 0, none⟩ 2 2 [.slice A1 l.length c1, .slice A2 rest.length c2] (by rfl) (by simp) (World.news_of_block (cs := #[.slice A1 l.length c1, .slice A2 rest.length c2]) (t := 22) (fr := (0, 0)) (heap_alloc_new w8 _)) (by intro u hu; rcases List.mem_cons.1 hu with rfl | hu; rfl; rw [List.mem_singleton.1 hu]; rfl) (by omega) (by have := HTL.out; unfold maxLen; omega) (by have := HTL.out; omega) (by simp; omega) _ rfl ?_
                    intro g' c' wA hownA hgrA hatA hltA
                    have HF := Lib.hid (HR9.out.todoPush2 HO1''.out HO2''.out HBT.out HSZ7.out HB3.out HB0.out hownA (by rw [HVT.out]; exact hgrA) (by rw [HVT.out]; exact hatA.imp id (fun h => h.trans (by simp))))
                    have kA0 : wA.cell? ⟨gb, 0, none⟩ = some (.pointer (some ⟨gs, 0, none⟩)) := (hgrA.cell_far ⟨gb, 0, none⟩ hl9b (fun e => HR9.out.sw.ne HOT.out HR9.out.box (by decide) (by decide) e.symm)).trans hk9.1
                    have kA7 : wA.cell? ⟨gs, 7, none⟩ = some (.slice At s6.T.length ct) := (hgrA.cell_far ⟨gs, 7, none⟩ hl9s (fun e => HR9.out.sw.ne HOT.out HR9.out.sw.blk (by decide) (by decide) e.symm)).trans hk9.2.1
                    have kA6 : wA.cell? ⟨gs, 6, none⟩ = some (.slice (some ⟨g6, 0, none⟩) (s2.M.length + 1) c6) := (hgrA.cell_far ⟨gs, 6, none⟩ hl9s (fun e => HR9.out.sw.ne HOT.out HR9.out.sw.blk (by decide) (by decide) e.symm)).trans hk9.2.2.1
                    have kAc : wA.cell? ⟨g6, c.toNat, none⟩ = some (.slice Am rest.length cm) := (hgrA.cell_far ⟨g6, c.toNat, none⟩ hl9g (fun e => HR9.out.sw.fam.sep .om .ot _ _ g6 (by simp) (show s6.fam .om = some ⟨22, s6.vm, s6.M.map Prod.fst⟩ from rfl) HOT.out (by rw [HV6.out]; rfl) e.symm)).trans hk9.2.2.2
                    have kAz : wA.frozen? ⟨gs, 7, none⟩ = false := (hgrA.frozen_far ⟨gs, 7, none⟩ hl9s (fun e => HR9.out.sw.ne HOT.out HR9.out.sw.blk (by decide) (by decide) e.symm)).trans (HR9.out.sw.blk.frozen 7)
                    have kAl : gs < wA.heap.size := Nat.lt_of_lt_of_le hl9s hgrA.size
                    clear hownA hgrA hatA hltA
                    refine hK.out _ _ (⟨kA0, kA7, kA6, kAc⟩) (fun hHeld => ?_)
                    clear hK K
                    try simp only [Act.put]
                    refine wpAnyH_take (i := 17) (v := ?_) rfl (by kernel_rfl) (by kernel_rfl) (by kernel_rfl) (fun _ _ _ h => h) (Or.inl ⟨by rfl, ?_⟩) (by assumption) ?_
                    rotate_left 1
                    · intro w hSw; (try dsimp only at hSw); go_simp; first | done | with_reducible rfl
                    try simp only [Act.put]
                    refine wpAnyH_take (i := 18) (v := ?_) rfl (by kernel_rfl) (by kernel_rfl) (by kernel_rfl) (fun _ _ _ h => h) (Or.inl ⟨by rfl, ?_⟩) (by assumption) ?_
                    rotate_left 1
                    · intro w hSw; (try dsimp only at hSw); go_simp; first | done | with_reducible rfl
                    try simp only [Act.put]
                    refine wpAnyH_done (by kernel_rfl) ?_ _
                    clear hHeld
                    show Oper.wp _ _ _ _ _ _
                    go_simp
                    go_wp2_with fail
                    obtain ⟨s7, hs7⟩ : ∃ t : SS, t = { s6 with vt := .slice (some ⟨g', 0, none⟩) (s6.T.length + 2) c', T := s6.T ++ [(.slice A1 l.length c1, l), (.slice A2 rest.length c2, rest)] } := ⟨_, rfl⟩
                    have HRW7 := HF
                    rw [← hs7] at HRW7
                    have hM7 : s7.M.map Prod.snd = (s2.M.map Prod.snd).set c.toNat rest ++ [l] := by
                      rw [hs7]; show s6.M.map Prod.snd = _
                      rw [HM6.out, HM5.out, List.map_append, List.map_set]; rfl
                    have hT7 : s7.T.map Prod.snd = s2.T.map Prod.snd ++ [l, rest] := by
                      rw [hs7]; show (s6.T ++ _).map Prod.snd = _
                      rw [HT6.out, List.map_append]; rfl
                    have hC7 : s7.cls = cls' := by rw [hs7]; show s6.cls = _; rw [HS6.out]; show s5.cls = _; rw [HS5.out]
                    have hH7 : ∀ y, y ≠ c → s7.H y = s2.H y := fun y hy => by
                      rw [hs7]; show s6.H y = _; rw [HS6.out]; show (if y = c then none else s5.H y) = _
                      rw [if_neg hy, HS5.out]
                    have hB7 : s7.B = s.B ∧ s7.cur = s.cur := by
                      rw [hs7]; show s6.B = s.B ∧ s6.cur = s.cur
                      rw [HS6.out]; show s5.B = s.B ∧ s5.cur = s.cur
                      rw [HS5.out]; exact HSA.out
                    have hnxl : nx = ((s2.M.map Prod.snd).length : Nat) := by rw [HNXT.out, List.length_map]
                    have hrs : rest = restM cls' (s2.M.map Prod.snd).length (gM (s2.M.map Prod.snd) c.toNat) := by rw [HRST.out, HGM.out, ← restM_filter, hnxl]
                    have HRI7 : Hid (RInv d U x f0 s7 R' (fun y => left y && !decide (y = c))) := HRI2.out.cut HOK.out ⟨hx0, hx1⟩ HL0.out (by rw [HGM.out]; exact HNE.out)
                      (by rw [hC7, HCLS.out, hnxl]) (by rw [hM7, ← hnxl, ← HCLS.out]; unfold splitM; rw [← hrs]) (by rw [hT7, ← hnxl, ← HCLS.out, hnxl, ← hrs]) hH7
                    have HLM7 : Hid (leftN d (s7.M.map Prod.snd) (s7.T.map Prod.snd) ≤ leftN d (s.M.map Prod.snd) (s.T.map Prod.snd)) :=
                      Nat.le_trans (leftN_cut HRI7.out.spl.work.part (by rw [hM7]; simp) (by rw [hT7]; simp)) HLM.out
                    have HSW7 := Lib.hid HRW7.out.sw
                    have HBX7 := Lib.hid HRW7.out.box
                    have HRG7 := Lib.hid HRW7.out.rng
                    have HSA7 := Lib.hid hB7
                    have HLE7 := Lib.hid HRW7.out.rng.left_eq
                    clear hs7 hM7 hT7 hC7 hH7 hB7 hnxl hrs
                    go_wp2_with fail
                    go_roundw
                    case rel => exact ⟨s7, R', _, cnt2, HSW7, HBX7, HRG7, HRI7, HSA7, HLM7⟩
                    case measure => rw [HLE.out, HLE7.out]; exact hlt2
end Go.Proofs.Ytmpcoclgcldclaa
