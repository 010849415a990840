/- The walk of short's fine and back. -/
import Derived.Test.YtmpcoclgcldclaaHC
import Derived.Test.YtmpcoclgcldclaaNE
import Derived.Test.YtmpcoclgcldclaaX
namespace Go.Proofs.Ytmpcoclgcldclaa
open Go.RowKit
attribute [local go_sem ↓] Go.wp_at_zero Go.wp_at_succ

theorem Try.enters115 : ∀ args w, (callFunc 115 args).run Try.prog w = .ok (.enter 115 args) w := enters_of Try.func115 (by kernel_rfl) rfl
theorem fine_lit (w : World) (x : Int) : Calls Try.prog 115 #[.int .i64 x] w fun e w' => e = .returned (.bool (!costOk x)) ∧ w = w' := by
  by_cases h : x < 1
  · have e : (!costOk x) = true := by
      unfold costOk
      rw [decide_eq_false (by omega)]; rfl
    rw [e]
    go_enter Try.func115, Try.ntmps115
    go_wp2
    go_ret
    exact ⟨rfl, rfl⟩
  · have e : (!costOk x) = decide (1048576 < x) := by
      unfold costOk
      by_cases h2 : 1048576 < x
      · rw [decide_eq_false (by omega), decide_eq_true h2]; rfl
      · rw [decide_eq_true (by omega), decide_eq_false h2]; rfl
    rw [e]
    go_enter Try.func115, Try.ntmps115
    go_wp2
    go_ret
    exact ⟨rfl, rfl⟩
set_option maxHeartbeats 1000000 in
set_option maxRecDepth 100000 in
theorem fine_any (A : Option Addr) (c : Nat) (cs : List Int) (w : World) (hl : cs.length ≤ 9223372036854775807) (hr : Rd w w.heap.size A (cs.map (Value.int .i64))) :
    Calls Try.prog 90 #[.slice A cs.length c] w fun e w' => e = .returned (.bool (fineB cs)) ∧ w = w' := by
  have hmf : ∀ (fn : Fn) (first cap : Array Value) (w : World), (Instr.makeFunc fn first cap).run Try.prog w = .ok (.func fn first cap) w := fun _ _ _ _ => rfl
  have h1 := containsFunc_any 115 #[] (fun x => !costOk x) w w.heap.size A c cs hl hr (fun x _ => fine_lit w x) Try.enters115
  have H1 := Lib.hid h1
  have HF : Hid (fineB cs = !(cs.any fun x => !costOk x)) := by
    show _ = _
    unfold fineB
    rw [List.all_eq_not_any_not]
  clear h1 hr
  go_enter Try.func90, Try.ntmps90
  go_wp2_with fail
  refine (H1.out).mono ?_
  rintro e w' ⟨rfl, rfl⟩
  go_wp2_with fail
  go_ret
  exact ⟨by rw [HF.out]; rfl, rfl⟩

theorem Try.info125 : (Try.prog.info? 125).map (fun i => (i.zero, i.size, i.bytes)) = some (some (.slice none 0 0), 1, 24) := by kernel_rfl
theorem Try.info127 : (Try.prog.info? 127).map (fun i => (i.zero, i.size, i.bytes)) = some (some (.agg #[.int .i64 0, .int .i64 0]), 2, 16) := by kernel_rfl
/-- the ways to all states, among the first k -/
def waysL (d : D) (k : Nat) : List (List (Int × Int)) := (List.range d.A.length).map fun (s : Nat) => waysT d k (s : Int)
theorem waysL_len (d : D) (k : Nat) : (waysL d k).length = d.A.length := by simp [waysL]
theorem waysL_zero (d : D) : waysL d 0 = List.replicate d.A.length [] := by
  unfold waysL
  refine List.ext_getElem (by simp) fun i h1 h2 => ?_
  simp [waysT]
theorem waysL_get {d : D} {k : Nat} {s : Int} (hs : 0 ≤ s ∧ s < d.A.length) : (waysL d k)[s.toNat]? = some (waysT d k s) := by
  unfold waysL
  rw [List.getElem?_map, List.getElem?_range (by omega)]
  simp [Int.toNat_of_nonneg hs.1]
theorem waysL_step {d : D} {k : Nat} {s : Int} (hs : 0 ≤ s ∧ s < d.A.length) (h : d.N.getD k 0 = s) : waysL d (k + 1) = (waysL d k).set s.toNat (waysT d k s ++ [((k : Int) / d.K, (k : Int) % d.K)]) := by
  refine List.ext_getElem (by simp [waysL]) fun i h1 h2 => ?_
  by_cases e : s.toNat = i
  · subst e
    rw [List.getElem_set_self]
    simp only [waysL, List.getElem_map, List.getElem_range, Int.toNat_of_nonneg hs.1]
    exact waysT_hit h
  · rw [List.getElem_set_ne e]
    simp only [waysL, List.getElem_map, List.getElem_range]
    refine waysT_miss ?_
    rw [h]
    omega

theorem back_end {w w3 : World} {base g c gg cap ci s : Nat} {Ai : Option Addr} {L : List (List (Int × Int))} {l : List (Int × Int)} {vs : List Value} (h : Nest w base 125 127 2 flat2 (some ⟨g, 0, none⟩) c L vs) (hl : L[s]? = some l) (hv : vs[s]? = some (.slice Ai l.length ci))
    (o : Obj) (q r : Int) (ho : w3.ownsRow base 127 2 (.slice (some ⟨gg, 0, none⟩) (l.length + 1) cap) (l.length + 1) (flat2 l ++ [.int .i64 q, .int .i64 r])) (hg : (w.alloc o).drew.grownBy w3 (Value.slice Ai l.length ci).ownBlock)
    (hat : (Value.slice Ai l.length ci).ownBlock = some gg ∨ gg = (w.alloc o).drew.heap.size) :
    Nest (w3.setCell ⟨g, s, none⟩ (.slice (some ⟨gg, 0, none⟩) (l.length + 1) cap)) base 125 127 2 flat2 (some ⟨g, 0, none⟩) c (L.set s (l ++ [(q, r)])) (vs.set s (.slice (some ⟨gg, 0, none⟩) (l.length + 1) cap)) := by
  have e : (l ++ [(q, r)]).length = l.length + 1 := by simp
  have h1 := (h.alloc o).drew.put (w1 := w3) (l' := l ++ [(q, r)]) (A' := some ⟨gg, 0, none⟩) (c'' := cap) (by decide) hl hv (by rw [e, flat2_append]; exact ho) hg (fun k hk => by
    have : gg = k := by simpa [Value.ownBlock] using hk
    subst this
    rcases hat with h2 | h2
    · exact .inl h2
    · right; rw [h2]; exact Nat.le_refl _)
  rw [e] at h1
  exact h1
set_option maxHeartbeats 4000000 in
set_option maxRecDepth 100000 in
theorem back_any (d : D) (An Aa : Option Addr) (cn ca : Nat) (w : World) (hd : DIn w d An Aa) (hok : d.Ok) :
    Calls Try.prog 117 #[dfaV d.K d.S An d.N.length cn Aa d.A.length ca] w fun e w' => ∃ AO c vs, e = .returned (.slice AO d.A.length c) ∧
      Nest w' w.heap.size 125 127 2 flat2 AO c (waysL d d.N.length) vs ∧ Below w.heap.size w w' := by
  have HD := Lib.hid hd; have HOK := Lib.hid hok
  have hA : d.A.length ≤ 65536 := hok.2.2.2.1
  clear hd hok
  obtain ⟨i125, hi5, hz5, hs5, hb5⟩ := info_parts Try.info125
  obtain ⟨i127, hi7, hz7, hs7, hb7⟩ := info_parts Try.info127
  have HI5 := Lib.hid hi5; have HZ5 := Lib.hid hz5; have HS5 := Lib.hid hs5; have HB5 := Lib.hid hb5
  have HI7 := Lib.hid hi7; have HZ7 := Lib.hid hz7; have HS7 := Lib.hid hs7; have HB7 := Lib.hid hb7
  clear hi5 hz5 hs5 hb5 hi7 hz7 hs7 hb7
  have Hbox := Lib.hid (HasD.new HD.out cn ca)
  have HW := Lib.hid (bel_new w (.cells #[.int .i64 d.K, .int .i64 d.S, .slice An d.N.length cn, .slice Aa d.A.length ca] 25))
  go_enter Try.func117, Try.ntmps117
  go_wp2_with (refine wpList_make_full _ rfl (.tmp 8) (.tmp 8) 122 rfl w.heap.size 125 i125 (.slice none 0 0) 1 Try.underlying122 HI5.out HZ5.out HS5.out .i64 .i64 _ _ d.A.length rfl rfl rfl rfl ?b2 ?b3 ?b4 ?_)
  case b2 => rw [HB5.out]; omega
  case b3 => unfold maxLen; omega
  case b4 => exact HW.out.size
  intro w1 hown1 hgr1
  rw [toList_madeCells_one] at hown1
  have hbel : Below (w.heap.size + 1) (w.alloc (.cells #[.int .i64 d.K, .int .i64 d.S, .slice An d.N.length cn, .slice Aa d.A.length ca] 25)) w1 := (Touch.ofGrown hgr1).toBelow (by simp) (fun k hk e => by cases e)
  replace Hbox := Lib.hid (Hbox.out.up (by simpa using hbel))
  replace HW := Lib.hid (HW.out.trans (hbel.mono (by omega)))
  try simp only [size_alloc_one] at hown1 ⊢
  have hnest : Nest w1 w.heap.size 125 127 2 flat2 (some ⟨w.heap.size + 1, 0, none⟩) d.A.length (waysL d 0) (List.replicate d.A.length (.slice none 0 0)) := by
    rw [waysL_zero]; exact Nest.made rfl hown1
  have HN := Lib.hid hnest
  have HNL := HD.out.ln
  have HK1 : 1 ≤ d.K := HOK.out.1
  clear hbel hnest hown1 hgr1
  obtain ⟨a0, a1, a2, a3⟩ := Hbox.out.cells
  have hlt := Hbox.out.lt
  replace Hbox := Lib.hid Hbox.out.box
  go_wp2_with fail
  clear a0 a1 a2 a3 hlt
  go_loopw [4, 5, 13] (fun _ _ i wr => ∃ (j : Nat) (vs : List Value), i = .int .i64 j ∧ j ≤ d.N.length ∧ Hid (Nest wr w.heap.size 125 127 2 flat2 (some ⟨w.heap.size + 1, 0, none⟩) d.A.length (waysL d j) vs) ∧ Hid (BlkD wr w.heap.size d An cn Aa ca) ∧ Hid (Below w.heap.size w wr)) (fun _ _ i _ => d.N.length - (intOf i).toNat)
  case atStart => exact ⟨0, _, rfl, Nat.zero_le _, HN, Hbox, HW⟩
  case round =>
    clear HN Hbox HW
    obtain ⟨j, vs, rfl, hj, HN, Hbox, HW⟩ := hrel
    obtain ⟨⟨a0, a1, a2, a3⟩, _⟩ := blk4 Hbox.out
    have hlt := Hbox.out.lt
    by_cases hjl : j < d.N.length
    · obtain ⟨gn, on, s, hAn, hgn, hcs, hs⟩ := (HD.out.rn.below HW.out).int_at hjl
      have hsr : 0 ≤ s ∧ s < d.A.length := by
        obtain ⟨_, _, _, _, _, _, _, h8⟩ := HOK.out
        exact h8 _ (List.mem_of_getElem? hs)
      have hgD : d.N.getD j 0 = s := by rw [List.getD_eq_getElem?_getD, hs]; rfl
      obtain ⟨go, Ai, ci, hgo, hv, hcell, hfz, hrow⟩ := HN.out.get (waysL_get hsr)
      obtain rfl : w.heap.size + 1 = go := by injection hgo with h; injection h
      subst hAn
      obtain ⟨hs1, hs2⟩ := hsr
      obtain ⟨q, HQ, hq, hq0, hq1⟩ : ∃ q : Int, Hid ((j : Int) / d.K = q) ∧ (j : Int).tdiv d.K = q ∧ 0 ≤ q ∧ q ≤ j :=
        ⟨_, rfl, Int.tdiv_eq_ediv_of_nonneg (by omega), Int.ediv_nonneg (by omega) (by omega), Int.ediv_le_self _ (by omega)⟩
      obtain ⟨r, HR, hr, hr0, hr1⟩ : ∃ r : Int, Hid ((j : Int) % d.K = r) ∧ (j : Int).tmod d.K = r ∧ 0 ≤ r ∧ r < d.K :=
        ⟨_, rfl, Int.tmod_eq_emod_of_nonneg (by omega), Int.emod_nonneg _ (by omega), Int.emod_lt_of_pos _ (by omega)⟩
      have hk0 : ¬ d.K = 0 := by omega
      have hkm : ¬ d.K = -1 := by omega
      have HGD := Lib.hid hgD; have HV := Lib.hid hv; have HRW := Lib.hid hrow; have HCL := Lib.hid hcell; have HFZ := Lib.hid hfz
      clear hs hgD hv hrow hgo
      have hltn : gn < wr.heap.size := by omega
      have hm : (waysT d j s).length ≤ j := waysT_len d s j
      obtain ⟨m, hml⟩ : ∃ m, m = (waysT d j s).length := ⟨_, rfl⟩
      have hj2 : j ≤ 33554432 := by
        have h1 := HOK.out.2.2.2.2.1
        have h2 : (d.A.length : Int) * d.K ≤ 65536 * 512 := Int.mul_le_mul (by omega) HOK.out.2.1 (by omega) (by omega)
        omega
      have hqw : IntKind.i64.wrap q = q := by rw [IntKind.wrap_i64]; omega
      have HL1 : Hid ((waysT d j s).length + 1 ≤ maxLen) := by show _ ≤ _; unfold maxLen; omega
      have HL2 : Hid (((waysT d j s).length + 1) * 16 ≤ 140737488355328) := by show _ ≤ _; omega
      have hlt1 : w.heap.size + 1 < wr.heap.size := (HN.out.outer.lt _ rfl).2
      have HONE : Hid (∀ u ∈ [Value.int .i64 q, Value.int .i64 r], u.oneCell' = true) := by
        intro u hu; rcases List.mem_cons.1 hu with rfl | hu; rfl; rw [List.mem_singleton.1 hu]; rfl
      go_wp2_with fail
      go_region_law
        (refine step_append_lies _ (by rfl) _ _ _ (by rfl) w.heap.size 127 i127 _ 2 16 Try.underlying125 HI7.out HZ7.out HS7.out HB7.out rfl (by omega) (.slice Ai (waysT d j s).length ci) (waysT d j s).length (flat2 (waysT d j s)) (by rfl) (HRW.out.alloc (.cells #[.int .i64 q, .int .i64 r] 127)).drew ⟨wr.heap.size, 0, none⟩ 1 1 [.int .i64 q, .int .i64 r] (by rfl) (by simp) (World.news_of_block (cs := #[.int .i64 q, .int .i64 r]) (t := 127) (fr := (0, 0)) (heap_alloc_new wr _)) HONE.out (by omega) HL1.out HL2.out (by have := HW.out.size; simp; omega) _ rfl ?_
         intro gg cap w3 hown3 hgrow hat3 hlt3
         have hne : some (w.heap.size + 1) ≠ (Value.slice Ai (waysT d j s).length ci).ownBlock := fun e => HN.out.outer_ne (by decide) HV.out e.symm rfl
         have hc3 : w3.cell? ⟨w.heap.size + 1, s.toNat, none⟩ = some (.slice Ai (waysT d j s).length ci) := (hgrow.cell_far ⟨w.heap.size + 1, s.toNat, none⟩ (by simp; omega) hne).trans ((World.cell?_alloc_lt wr _ ⟨w.heap.size + 1, s.toNat, none⟩ hlt1).trans HCL.out)
         have hz3 : w3.frozen? ⟨w.heap.size + 1, s.toNat, none⟩ = false := (hgrow.frozen_far ⟨w.heap.size + 1, s.toNat, none⟩ (by simp; omega) hne).trans ((HN.out.alloc (.cells #[.int .i64 q, .int .i64 r] 127)).outer.frozenAt _)
         have hl3 : w.heap.size + 1 < w3.heap.size := Nat.lt_of_lt_of_le (by simp; omega) hgrow.size
         have HO3 := Lib.hid hown3; have HGR := Lib.hid hgrow; have HAT := Lib.hid hat3
         clear hown3 hgrow hat3 hne)
      all_goals
        have HFIN := Lib.hid (back_end HN.out (waysL_get ⟨hs1, hs2⟩) HV.out (.cells #[.int .i64 q, .int .i64 r] 127) q r HO3.out HGR.out HAT.out)
        have HTT : Hid (Touch (fun k => k = w.heap.size + 1 ∨ (Value.slice Ai (waysT d j s).length ci).ownBlock = some k) wr (w3.setCell ⟨w.heap.size + 1, s.toNat, none⟩ (.slice (some ⟨gg, 0, none⟩) ((waysT d j s).length + 1) cap))) :=
          ((((Touch.refl (fun k => k = w.heap.size + 1 ∨ (Value.slice Ai (waysT d j s).length ci).ownBlock = some k) wr).alloc _).drew).grown HGR.out (fun k hk _ => .inr hk)).setCell (p := ⟨w.heap.size + 1, s.toNat, none⟩) (fun _ => .inl rfl) _
        have HNO : Hid (∀ k, (Value.slice Ai (waysT d j s).length ci).ownBlock = some k → w.heap.size < k) := fun k hk => by
          have h1 := (HRW.out.lt k hk).1
          have h2 := own_ne_blk HRW.out Hbox.out (by decide)
          have h3 : k ≠ w.heap.size := fun e => h2 (by rw [hk, e])
          omega
        clear HO3 HGR HAT hc3 hz3 hl3 HRW HCL HFZ
        go_wp2_with fail
        go_roundw
        case rel =>
          refine ⟨j + 1, vs.set s.toNat (.slice (some ⟨gg, 0, none⟩) ((waysT d j s).length + 1) cap), by go_num, by omega, ?_, ?_, ?_⟩
          · rw [waysL_step ⟨hs1, hs2⟩ HGD.out, HQ.out, HR.out]; exact HFIN.out
          · exact Hbox.out.touch HTT.out (fun h => by rcases h with h | h; omega; have := HNO.out _ h; omega)
          · exact HW.out.trans (HTT.out.toBelow HW.out.size (fun k hk h => by rcases h with h | h; omega; have := HNO.out _ h; omega))
        case measure => simp [intOf]; omega
    · obtain rfl : j = d.N.length := by omega
      go_wp2_with fail
      go_ret
      exact ⟨_, _, vs, rfl, HN.out, HW.out⟩
end Go.Proofs.Ytmpcoclgcldclaa
