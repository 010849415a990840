/- The walk of short's left: what it costs from each state on. -/
import Derived.Test.YtmpcoclgcldclaaHD
import Derived.Test.YtmpcoclgcldclaaC4
import Derived.Deep.LoopGhost
namespace Go.Proofs.Ytmpcoclgcldclaa
open Go.RowKit
attribute [local go_sem ↓] Go.wp_at_zero Go.wp_at_succ

theorem LInv.tlen {d : D} {cs out : List Int} {T : List (Int × Int)} {E : Int → Prop} (h : LInv d cs out T E) (hn : d.A.length ≤ 950) : T.length ≤ 980000000000 := by
  have h1 := h.room
  have h2 : bigW d.A.length ≤ bigW 950 := by unfold bigW; have := Nat.mul_le_mul_right mc hn; omega
  have h3 : d.A.length * bigW d.A.length ≤ 950 * bigW 950 := Nat.mul_le_mul hn h2
  have h4 : 950 * bigW 950 ≤ 960000000000 := by decide
  omega
/-- the row of the labels, the stops, the automaton's variable -/
structure LeftW (w wr : World) (d : D) (An : Option Addr) (cn : Nat) (Aa : Option Addr) (ca : Nat) (go co gT : Nat) (out : List Int) (A : Option Addr) (c : Nat) (T : List (Int × Int)) : Prop where
  olen : out.length = d.A.length
  row : wr.ownsRow w.heap.size 3 1 (.slice (some ⟨go, 0, none⟩) d.A.length co) d.A.length (out.map (Value.int .i64))
  stops : Stops wr gT w.heap.size A c T
  box : BlkD wr w.heap.size d An cn Aa ca
  bel : Below w.heap.size w wr
section
variable {w wr w2 : World} {d : D} {An Aa A : Option Addr} {cn ca go co gT c : Nat} {out : List Int} {T : List (Int × Int)}
theorem LeftW.cell (h : LeftW w wr d An cn Aa ca go co gT out A c T) {s : Int} (hs : 0 ≤ s ∧ s < d.A.length) : wr.cell? ⟨go, s.toNat, none⟩ = some (.int .i64 (lf out s)) ∧ wr.frozen? ⟨go, s.toNat, none⟩ = false := by
  have hl : s.toNat < out.length := by rw [h.olen]; omega
  refine ⟨?_, h.row.frozenAt _⟩
  rw [h.row.cellAt _ (by omega), List.getElem?_map, lf_get hl]
  rfl
theorem LeftW.go_lt (h : LeftW w wr d An cn Aa ca go co gT out A c T) : go < wr.heap.size := (h.row.lt go rfl).2
/-- a label is put down -/
theorem LeftW.set (h : LeftW w wr d An cn Aa ca go co gT out A c T) (k : Nat) (x : Int) : LeftW w (wr.setCell ⟨go, k, none⟩ (.int .i64 x)) d An cn Aa ca go co gT (out.set k x) A c T where
  olen := by rw [List.length_set]; exact h.olen
  row := by rw [List.map_set]; exact (h.row.stored k _).1
  stops := ⟨h.stops.blk.far (fun e => own_ne_blk h.row h.stops.blk (by decide) (by rw [e]; rfl)) _, ownsRow_setCell_other (a := ⟨go, k, none⟩) h.stops.row (own_ne_own h.stops.row h.row (by decide) rfl) _⟩
  box := h.box.far (fun e => own_ne_blk h.row h.box (by decide) (by rw [e]; rfl)) _
  bel := Below.setCell h.bel (show w.heap.size ≤ (⟨go, k, none⟩ : Addr).block from (h.row.lt go rfl).1) _
/-- the stops have turned -/
theorem LeftW.turn {A' : Option Addr} {c' : Nat} {T' : List (Int × Int)} (h : LeftW w wr d An cn Aa ca go co gT out A c T) (hs : Stops w2 gT w.heap.size A' c' T') (ht : Touch (StopsS gT A T.length c) wr w2) (hg : w.heap.size < gT) : LeftW w w2 d An cn Aa ca go co gT out A' c' T' where
  olen := h.olen
  row := own_touch h.row ht fun k hk hS => by
    rcases hS with h1 | h1
    · exact own_ne_blk h.row h.stops.blk (by decide) (by rw [hk, h1])
    · exact own_ne_own h.stops.row h.row (by decide) hk h1
  stops := hs
  box := h.box.touch ht fun hS => by
    rcases hS with h1 | h1
    · omega
    · exact own_ne_blk h.stops.row h.box (by decide) h1
  bel := h.bel.trans (ht.toBelow h.bel.size fun k hk hS => by
    rcases hS with h1 | h1
    · omega
    · have := (h.stops.row.lt k h1).1; omega)
theorem LeftW.alloc (h : LeftW w wr d An cn Aa ca go co gT out A c T) (o : Obj) : LeftW w (wr.alloc o) d An cn Aa ca go co gT out A c T := ⟨h.olen, h.row.alloc o, h.stops.alloc o, h.box.alloc o, bel_alloc h.bel o⟩
theorem LeftW.drew (h : LeftW w wr d An cn Aa ca go co gT out A c T) : LeftW w wr.drew d An cn Aa ca go co gT out A c T := ⟨h.olen, h.row, h.stops.drew, h.box.drew, h.bel.drew⟩
theorem LeftW.up (h : LeftW w wr d An cn Aa ca go co gT out A c T) (hb : Below wr.heap.size wr w2) : LeftW w w2 d An cn Aa ca go co gT out A c T := ⟨h.olen, own_below h.row hb, h.stops.below hb, blk_below h.box hb, bel_step h.bel hb⟩
end
section
variable {w wr w2 : World} {d : D} {An Aa A AW : Option Addr} {cn ca go co gT c cW : Nat} {out : List Int} {T : List (Int × Int)} {LW : List (List (Int × Int))} {vsW : List Value}
theorem nest_turn (hn : Nest wr w.heap.size 125 127 2 flat2 AW cW LW vsW) (h : LeftW w wr d An cn Aa ca go co gT out A c T) (ht : Touch (StopsS gT A T.length c) wr w2) : Nest w2 w.heap.size 125 127 2 flat2 AW cW LW vsW :=
  hn.touch ht fun k cur e hk he hS => by
    rcases hS with rfl | h1
    · have hb := h.stops.blk
      unfold Blk at hb
      rw [hk] at hb
      injection hb with hb
      injection hb with _ hb
      subst hb
      rcases he with h2 | h2 <;> exact absurd h2 (by decide)
    · obtain ⟨cur2, h2⟩ := own_heap h.stops.row h1
      rw [hk] at h2
      injection h2 with h2
      injection h2 with _ h2
      subst h2
      rcases he with h2 | h2 <;> exact absurd h2 (by decide)
theorem nest_set (hn : Nest wr w.heap.size 125 127 2 flat2 AW cW LW vsW) (h : LeftW w wr d An cn Aa ca go co gT out A c T) (k : Nat) (x : Value) : Nest (wr.setCell ⟨go, k, none⟩ x) w.heap.size 125 127 2 flat2 AW cW LW vsW :=
  hn.touch ((Touch.refl (fun k => k = go) wr).setCell (p := ⟨go, k, none⟩) (fun _ => rfl) x) fun k cur e hk he hS => by
    subst hS
    obtain ⟨cur2, h2⟩ := own_heap h.row (k := k) rfl
    rw [hk] at h2
    injection h2 with h2
    injection h2 with _ h2
    subst h2
    rcases he with h2 | h2 <;> exact absurd h2 (by decide)
/-- the stop that has been taken lies in no block of the stops -/
theorem at_turn {gA : Nat} {cs : Array Value} (hb : Blk wr gA 121 cs) (h : LeftW w wr d An cn Aa ca go co gT out A c T) (hne : (Value.slice A T.length c).ownBlock ≠ some gA) (ht : Touch (StopsS gT A T.length c) wr w2) : Blk w2 gA 121 cs :=
  hb.touch ht fun hS => by
    rcases hS with h1 | h1
    · subst h1
      have hb2 := h.stops.blk
      unfold Blk at hb hb2
      rw [hb] at hb2
      injection hb2 with hb2
      injection hb2 with _ hb2
      exact absurd hb2 (by decide)
    · exact hne h1
theorem at_set {gA : Nat} {cs : Array Value} (hb : Blk wr gA 121 cs) (h : LeftW w wr d An cn Aa ca go co gT out A c T) (k : Nat) (x : Value) : Blk (wr.setCell ⟨go, k, none⟩ x) gA 121 cs :=
  hb.far (fun e => own_ne_blk h.row hb (by decide) (by rw [e]; rfl)) _
end
/-- what is left, and how much the search has still to do -/
def todoM (n : Nat) (out : List Int) (T : List (Int × Int)) : Nat := 2 * pot (bigW n) out + T.length
set_option maxHeartbeats 16000000 in
set_option maxRecDepth 100000 in
theorem left_any (d : D) (cs : List Int) (An Aa Ac : Option Addr) (cn ca cc : Nat) (w : World) (hd : DIn w d An Aa) (hc : WIn w cs Ac) (hf : Fit d cs) (hsz : d.A.length ≤ 950) :
    Calls Try.prog 91 #[dfaV d.K d.S An d.N.length cn Aa d.A.length ca, .slice Ac cs.length cc] w fun e w' => ∃ AO c out, e = .returned (.slice AO d.A.length c) ∧
      w'.ownsRow w.heap.size 3 1 (.slice AO d.A.length c) d.A.length (out.map (Value.int .i64)) ∧ LeftOk d cs out ∧ (∀ s : Int, 0 ≤ s ∧ s < d.A.length → lf out s ≠ mxI → lf out s ≤ 1048576000) ∧ Below w.heap.size w w' := by
  have hA1 : 1 ≤ d.A.length := hf.ok.2.2.1
  have HD := Lib.hid hd; have HC := Lib.hid hc; have HF := Lib.hid hf
  have hbk := fun (W : World) (h : Below w.heap.size w W) => back_any d An Aa cn ca W (hd.up h) hf.ok
  have BK := Lib.hid hbk
  clear hd hc hf hbk
  have Hbox := Lib.hid (HasD.new HD.out cn ca).box
  have HW := Lib.hid (bel_new w (.cells #[.int .i64 d.K, .int .i64 d.S, .slice An d.N.length cn, .slice Aa d.A.length ca] 25))
  go_enter Try.func91, Try.ntmps91
  go_wp2_with fail
  refine (repeat_any 9223372036854775807 d.A.length (w.heap.size + 1) 0 1 _ hA1 (by omega) (by simp) (by simp)).mono ?_
  rintro e w1 ⟨v1, rfl, ho1, hb1⟩
  obtain ⟨AO, co, rfl⟩ := own_form ho1
  obtain ⟨go, capo, hAO, _, _⟩ := ho1.form hA1
  obtain rfl : AO = some ⟨go, 0, none⟩ := by injection hAO
  have hLW : LeftW w (w1.alloc (.cells #[.slice none 0 0] 117)) d An cn Aa ca go co w1.heap.size (List.replicate d.A.length mxI) none 0 [] :=
    ⟨by simp, by rw [List.map_replicate]; exact (ho1.mono (by simp; omega)).alloc _, ⟨Blk.new _ _ _, World.ownsRow_nil _ _ _ _⟩, (blk_below (Hbox.out.alloc _) hb1).alloc _, bel_alloc (bel_step (bel_alloc HW.out _) hb1) _⟩
  have hsz1 : w.heap.size + 2 ≤ w1.heap.size := by have := hb1.size; simpa using this
  have HL := Lib.hid hLW
  clear ho1 hb1 hLW Hbox HW hAO
  have hbx := HL.out.box
  obtain ⟨⟨a0, a1, a2, a3⟩, _⟩ := blk4 hbx
  have hltb := hbx.lt
  clear hbx
  have HI0 := Lib.hid (LInv.start d cs (fun _ => False))
  have HZ0 : Hid (ZeroTo d (List.replicate d.A.length mxI) 0) := fun s _ h _ => by omega
  have HM0 : Hid (MxFrom d (List.replicate d.A.length mxI) 0) := fun s _ => lf_start _ s
  go_wp2_with fail
  generalize w1.heap.size = gT at *
  clear a0 a1 a2 a3 hltb
  have hgT : w.heap.size < gT := by omega
  obtain ⟨ga0, oa0, hAa0, _, _⟩ : ∃ b o, Aa = some ⟨b, o, none⟩ ∧ True ∧ True := by
    obtain ⟨b, o, _, h, _⟩ := HD.out.ra.bool_at (k := 0) (by omega)
    exact ⟨b, o, h, trivial, trivial⟩
  subst hAa0
  go_loopw [7, 8, 22] (fun _ _ i wr => ∃ (k : Nat) (out : List Int) (T : List (Int × Int)) (A : Option Addr) (c : Nat), i = .int .i64 k ∧ k ≤ d.A.length ∧ Hid (LInv d cs out T (fun _ => False)) ∧ Hid (ZeroTo d out k) ∧ Hid (MxFrom d out k) ∧ Hid (LeftW w wr d An cn (some ⟨ga0, oa0, none⟩) ca go co gT out A c T)) (fun _ _ i _ => d.A.length - (intOf i).toNat)
  case atStart => exact ⟨0, _, _, _, _, rfl, Nat.zero_le _, HI0, HZ0, HM0, HL⟩
  case round =>
    clear HL HI0 HZ0 HM0
    obtain ⟨k, out, T, A, c, rfl, hk, HI, HZ, HM, HL⟩ := hrel
    by_cases hkl : k < d.A.length
    · obtain ⟨ga, oa, x, hAe, hga, hca, hx⟩ := (HD.out.ra.below HL.out.bel).bool_at hkl
      obtain ⟨rfl, rfl⟩ : ga0 = ga ∧ oa0 = oa := by simpa using hAe
      clear hAe
      have HX := Lib.hid hx
      have hltn : ga0 < wr.heap.size := by have := HL.out.bel.size; omega
      clear hx
      cases x
      · go_wp2_with fail
        go_roundw
        case rel => exact ⟨k + 1, out, T, A, c, by go_num, by omega, HI, HZ.out.skip HX.out, HM.out.skip, HL⟩
        case measure => simp [intOf]; omega
      · obtain ⟨hc1, hc2⟩ := HL.out.cell (s := (k : Int)) ⟨by omega, by omega⟩
        rw [Int.toNat_natCast] at hc1 hc2
        have hgo := HL.out.go_lt
        have hk0 : (0 : Int) ≤ k := by omega
        have hk1 : (k : Int) < d.A.length := by omega
        have hlT := HI.out.tlen hsz
        go_wp2_with fail
        have HL2 := Lib.hid (HL.out.set k 0)
        refine (heapPush_any gT w.heap.size c A T 0 k _ (by omega) HL2.out.bel.size HL2.out.stops).mono ?_
        rintro e w3 ⟨rfl, A3, c3, T3, hp3, hs3, ht3, ho3⟩
        have HL3 := Lib.hid (HL2.out.turn hs3 ht3 hgT)
        have HACC := Lib.hid (HI.out.accept HZ.out HM.out hkl HX.out hp3)
        clear hp3 hs3 ht3 ho3 hc1 hc2 hgo
        go_wp2_with fail
        go_roundw
        case rel => exact ⟨k + 1, _, T3, A3, c3, by go_num, by omega, HACC.out.1, HACC.out.2.1, HACC.out.2.2, HL3⟩
        case measure => simp [intOf]; omega
    · obtain rfl : k = d.A.length := by omega
      have hbx := HL.out.box
      obtain ⟨⟨a0, a1, a2, a3⟩, _⟩ := blk4 hbx
      have hltb := hbx.lt
      clear hbx
      go_wp2_with fail
      refine (BK.out _ HL.out.bel).mono ?_
      rintro e w2 ⟨AW, cW, vsW, rfl, hn2, hb2⟩
      have HL2 := Lib.hid (HL.out.up hb2)
      have HN2 := Lib.hid (hn2.mono HL.out.bel.size)
      clear hn2 hb2 a0 a1 a2 a3 hltb HL
      go_wp2_with fail
      go_loopg [10, 12, 13] (todoM d.A.length out T) (fun gk _ _ _ wr => ∃ (out : List Int) (T : List (Int × Int)) (A : Option Addr) (c : Nat), gk = todoM d.A.length out T ∧ Hid (LInv d cs out T (fun _ => False)) ∧ Hid (ZeroTo d out d.A.length) ∧ Hid (LeftW w wr d An cn (some ⟨ga0, oa0, none⟩) ca go co gT out A c T) ∧ Hid (Nest wr w.heap.size 125 127 2 flat2 AW cW (waysL d d.N.length) vsW))
      case atStart => exact ⟨out, T, A, c, rfl, HI, HZ, HL2, HN2⟩
      case round =>
        clear HL2 HN2 HI HZ HM
        obtain ⟨out, T, A, c, rfl, HI, HZ, HL, HN⟩ := hrel
        obtain ⟨t0, tl⟩ := HL.out.stops.low
        have hlT := HI.out.tlen hsz
        by_cases h0 : T.length = 0
        · have hT0 := List.eq_nil_of_length_eq_zero h0
          have hLO : Hid (LeftOk d cs out) := by
            have h := HI.out
            rw [hT0] at h
            exact h.left HF.out.ok (fun s hs ha => HZ.out s hs (by omega) ha)
          have hBD : Hid (∀ s : Int, 0 ≤ s ∧ s < d.A.length → lf out s ≠ mxI → lf out s ≤ 1048576000) := fun s hs hm => by
            have h1 := HI.out.bd s hs hm
            have h2 : cf out * mc ≤ 950 * mc := Nat.mul_le_mul_right _ (by have := cf_le out; have := HI.out.len; omega)
            have h3 : 950 * mc ≤ 1048576000 := by decide
            omega
          clear hT0
          go_wp2_with fail
          go_ret
          exact ⟨_, _, out, rfl, HL.out.row, hLO.out, hBD.out, HL.out.bel⟩
        · have hpos : 0 < T.length := by omega
          go_wp2_with fail
          refine (heapPop_any gT w.heap.size c A T _ (by omega) hpos HL.out.stops).mono ?_
          rintro e w3 ⟨⟨cc, s⟩, T', rfl, hp3, hs3, ht3⟩
          have hta := Try.assert121 cc s
          have HL3 := Lib.hid (HL.out.turn hs3 ht3 hgT)
          have HN3 := Lib.hid (nest_turn HN.out HL.out ht3)
          have HP3 := Lib.hid hp3
          obtain ⟨⟨s0, s1⟩, htd1, htd2, htd3⟩ := HI.out.todo (cc, s) (hp3.mem_iff.2 (by simp))
          simp only at s0 s1 htd1 htd2 htd3
          have hnm : d.A.length * mc ≤ 996147200 := Nat.le_trans (Nat.mul_le_mul_right mc hsz) (by decide)
          have HLEN3 : Hid (T.length = T'.length + 1) := hp3.length_eq
          clear hs3 ht3 hp3 t0 tl
          obtain ⟨o1, o2⟩ := HL3.out.cell (s := s) ⟨s0, s1⟩
          have hgo := HL3.out.go_lt
          have hlf := HI.out.rng s ⟨s0, s1⟩
          have HB4 := Lib.hid (Blk.new w3 121 #[.int .i64 cc, .int .i64 s]).drew
          have HL4 := Lib.hid (HL3.out.alloc (.cells #[.int .i64 cc, .int .i64 s] 121)).drew
          have HN4 := Lib.hid (HN3.out.alloc (.cells #[.int .i64 cc, .int .i64 s] 121)).drew
          have HNE4 : Hid ((Value.slice A T'.length c).ownBlock ≠ some w3.heap.size) := fun e => by have := (HL3.out.stops.row.lt _ e).2; omega
          by_cases hlt : lf out s < cc
          · go_wp2_with fail
            go_region
            go_wp2_with fail
            have hgk : todoM d.A.length out T' < todoM d.A.length out T := by unfold todoM; have := HLEN3.out; omega
            go_roundg (todoM d.A.length out T')
            case measure => exact hgk
            case rel => exact ⟨out, T', A, c, rfl, HI.out.drop HP3.out hlt, HZ, HL4, HN4⟩
          · have HEQ : Hid (lf out s = cc) := by show _ = _; omega
            have HIT := Lib.hid (HI.out.take HP3.out)
            have HWT := Lib.hid (waysT_to HF.out.ok s)
            clear HI HP3 HL3 HN3
            obtain ⟨gw, Ai, ci, hgw, hv, hcell, _, hrow⟩ := HN4.out.get (waysL_get ⟨s0, s1⟩)
            subst hgw
            have hgwl : gw < w3.heap.size + 1 := by
              have h := (HN4.out.outer.lt gw rfl).2
              simpa using h
            go_wp2_with fail
            go_region
            generalize w3.heap.size = gA at HB4 HNE4 hgwl ⊢
            generalize (w3.alloc (.cells #[.int .i64 cc, .int .i64 s] 121)).drew = W4 at *
            clear o1 o2 hgo hgwl
            have hgwl : gw < W4.heap.size := (HN4.out.outer.lt gw rfl).2
            have at1 : W4.cell? ⟨gA, 1, none⟩ = some (.int .i64 s) := by rw [HB4.out.cell]; rfl
            have hgAl : gA < W4.heap.size := HB4.out.lt
            have HV := Lib.hid hv; have HRW := Lib.hid hrow
            have hm0 : todoM d.A.length out T' < todoM d.A.length out T := by unfold todoM; have := HLEN3.out; omega
            have HM0 := Lib.hid hm0
            have hwl := waysT_len d s d.N.length
            have hnl : d.N.length ≤ 1000000 := by
              have h1 := HF.out.ok.2.2.2.2.1
              have h2 : (d.A.length : Int) * d.K ≤ 950 * 512 := Int.mul_le_mul (by omega) HF.out.ok.2.1 (by have := HF.out.ok.1; omega) (by omega)
              omega
            have HWL := Lib.hid (Nat.le_trans hwl hnl)
            clear hv hrow hm0 hta hpos h0 hlT hwl hnl
            have HR0 : Hid (RelTo cs out (waysT d d.N.length s) cc 0) := RelTo.none
            go_wp2_with fail
            clear at1 hcell hgwl hgAl
            go_loopw [12, 13, 59] (fun _ _ i wr => ∃ (k : Nat) (out1 : List Int) (T1 : List (Int × Int)) (A1 : Option Addr) (c1 : Nat), i = .int .i64 k ∧ k ≤ (waysT d d.N.length s).length ∧ Hid (todoM d.A.length out1 T1 ≤ todoM d.A.length out T') ∧ Hid (LInv d cs out1 T1 (fun t => t = s)) ∧ Hid (RelTo cs out1 (waysT d d.N.length s) cc k) ∧ Hid (lf out1 s = cc) ∧ Hid (ZeroTo d out1 d.A.length) ∧
                Hid (LeftW w wr d An cn (some ⟨ga0, oa0, none⟩) ca go co gT out1 A1 c1 T1) ∧ Hid (Blk wr gA 121 #[.int .i64 cc, .int .i64 s]) ∧ Hid ((Value.slice A1 T1.length c1).ownBlock ≠ some gA) ∧ Hid (Nest wr w.heap.size 125 127 2 flat2 (some ⟨gw, 0, none⟩) cW (waysL d d.N.length) vsW)) (fun _ _ i _ => (waysT d d.N.length s).length - (intOf i).toNat)
            case atStart => exact ⟨0, out, T', A, c, rfl, Nat.zero_le _, Nat.le_refl _, HIT, HR0, HEQ, HZ, HL4, HB4, HNE4, HN4⟩
            case round =>
              clear HIT HR0 HEQ HZ HL4 HB4 HNE4 HN4 HRW HL HN
              obtain ⟨k, out1, T1, A1, c1, rfl, hk, HME, HI, HR, HE, HZ, HL, HB, HNE, HN⟩ := hrel
              have hat0 : wr.cell? ⟨gA, 0, none⟩ = some (.int .i64 cc) := by rw [HB.out.cell]; rfl
              have hgAl : gA < wr.heap.size := HB.out.lt
              have hkb : (waysT d d.N.length s).length ≤ 1000000 := HWL.out
              by_cases hkl : k < (waysT d d.N.length s).length
              · obtain ⟨gw', Ai', ci', hgw', hv', hcell', _, hrow'⟩ := HN.out.get (waysL_get ⟨s0, s1⟩)
                rw [HV.out] at hv'
                obtain ⟨rfl, rfl⟩ : Ai = Ai' ∧ ci = ci' := by simpa using hv'
                obtain ⟨gi, oi, ⟨r, x⟩, rfl, hgi, hr0, hr1, hrx⟩ := (Rd.of_own2 hrow' (Nat.le_refl _)).at_ hkl
                obtain ⟨⟨r0, r1⟩, ⟨x0, x1⟩, hstep⟩ := HWT.out.1 _ (List.mem_of_getElem? hrx)
                simp only at r0 r1 x0 x1 hstep hr0 hr1
                obtain ⟨gc, oc, cx, rfl, hgc, hcx, hcv⟩ := (HC.out.r.below HL.out.bel).int_ix x0 (by rw [HF.out.len]; exact x1)
                have hcst := HF.out.cst ⟨x0, x1⟩
                have hcv' : cst cs x = cx := hcv
                rw [hcv'] at hcst
                obtain ⟨o1, o2⟩ := HL.out.cell (s := r) ⟨r0, r1⟩
                have hgo := HL.out.go_lt
                have hrl := HI.out.rng r ⟨r0, r1⟩
                have HRX := Lib.hid hrx; have HCV := Lib.hid hcv'
                have hxl : x < cs.length := by rw [HF.out.len]; exact x1
                have hwr : IntKind.i64.wrap (cc + cx) = cc + cx := by rw [IntKind.wrap_i64]; omega
                have hltc : gc < wr.heap.size := by have := HL.out.bel.size; omega
                clear hv' hgw' hcell' hrow' hrx hcv hcv' hstep
                go_wp2_with fail
                go_region
                have HB5 := Lib.hid (HB.out.alloc (.cells #[.int .i64 r, .int .i64 x] 127)).drew
                have HW5 := Lib.hid (Blk.new wr 127 #[.int .i64 r, .int .i64 x]).drew
                have HL5 := Lib.hid (HL.out.alloc (.cells #[.int .i64 r, .int .i64 x] 127)).drew
                have HN5 := Lib.hid (HN.out.alloc (.cells #[.int .i64 r, .int .i64 x] 127)).drew
                clear HB HL HN hr0 hr1 hcx o1 o2 hgo hat0 hgAl hltc
                generalize wr.heap.size = gB at HW5 ⊢
                generalize (wr.alloc (.cells #[.int .i64 r, .int .i64 x] 127)).drew = W5 at *
                obtain ⟨o1, o2⟩ := HL5.out.cell (s := r) ⟨r0, r1⟩
                have hgo := HL5.out.go_lt
                have hw0 : W5.cell? ⟨gB, 0, none⟩ = some (.int .i64 r) := by rw [HW5.out.cell]; rfl
                have hgBl : gB < W5.heap.size := HW5.out.lt
                by_cases hlt : cc + cx < lf out1 r
                · have hne2 : ¬ gB = go := fun e => own_ne_blk HL5.out.row HW5.out (by decide) (by rw [e]; rfl)
                  have hne3 : ¬ go = gB := fun e => hne2 e.symm
                  have hlT := HI.out.tlen hsz
                  have HL6 := Lib.hid (HL5.out.set r.toNat (cc + cx))
                  have HN6 := Lib.hid (nest_set HN5.out HL5.out r.toNat (.int .i64 (cc + cx)))
                  have HB6 := Lib.hid (at_set HB5.out HL5.out r.toNat (.int .i64 (cc + cx)))
                  clear HN5 HB5
                  go_wp2_with fail
                  refine (heapPush_any gT w.heap.size c1 A1 T1 (cc + cx) r _ (by omega) HL6.out.bel.size HL6.out.stops).mono ?_
                  rintro e w7 ⟨rfl, A3, c3, T3, hp3, hs3, ht3, ho3⟩
                  have HL7 := Lib.hid (HL6.out.turn hs3 ht3 hgT)
                  have HN7 := Lib.hid (nest_turn HN6.out HL6.out ht3)
                  have HB7 := Lib.hid (at_turn HB6.out HL6.out HNE.out ht3)
                  have HNE7 : Hid ((Value.slice A3 T3.length c3).ownBlock ≠ some gA) := fun e => by
                    rcases ho3 gA e with h1 | h1
                    · exact HNE.out h1
                    · have := HB6.out.lt; omega
                  have hfall := HI.out.fall (T' := T3) HF.out HWT.out ⟨s0, s1⟩ HE.out (by have : mxI = 9223372036854775807 := rfl; omega) HRX.out HR.out (by rw [HCV.out]; exact hlt) (by rw [HCV.out]; exact hp3)
                  rw [HCV.out] at hfall
                  have HFA := Lib.hid hfall
                  have HZ7 := Lib.hid (HZ.out.keep (c := cc + cx) ⟨r0, r1⟩ (by omega) hlt)
                  clear hs3 ht3 hp3 ho3 hfall o1 o2 hw0
                  go_wp2_with fail
                  go_roundw
                  case rel => exact ⟨k + 1, _, T3, A3, c3, by go_num, by omega, Nat.le_trans (Nat.le_of_lt HFA.out.2.2.2) HME.out, HFA.out.1, HFA.out.2.1, HFA.out.2.2.1, HZ7, HL7, HB7, HNE7, HN7⟩
                  case measure => simp [intOf]; omega
                · have HRP := Lib.hid (HR.out.pass HRX.out (by rw [HCV.out]; show lf out1 r ≤ cc + cx; omega) (by rw [HCV.out]; have : mxI = 9223372036854775807 := rfl; omega))
                  go_wp2_with fail
                  go_roundw
                  case rel => exact ⟨k + 1, out1, T1, A1, c1, by go_num, by omega, HME, HI, HRP, HE, HZ, HL5, HB5, HNE, HN5⟩
                  case measure => simp [intOf]; omega
              · have HG := Lib.hid (HI.out.gone (HR.out.relaxed HWT.out (by omega) HE.out))
                have hgk : todoM d.A.length out1 T1 < todoM d.A.length out T := Nat.lt_of_le_of_lt HME.out HM0.out
                go_wp2_with fail
                go_roundg (todoM d.A.length out1 T1)
                case measure => exact hgk
                case rel => exact ⟨out1, T1, A1, c1, rfl, HG, HZ, HL, HN⟩
end Go.Proofs.Ytmpcoclgcldclaa
