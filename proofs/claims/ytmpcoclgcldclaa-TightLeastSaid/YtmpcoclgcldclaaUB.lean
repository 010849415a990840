/- The walk of tight's Count. -/
import Derived.Test.YtmpcoclgcldclaaX
import Derived.Test.YtmpcoclgcldclaaY
import Derived.Test.YtmpcoclgcldclaaUA
import Derived.StillTailTactics
namespace Go.Proofs.Ytmpcoclgcldclaa
open Go.RowKit
attribute [local go_sem ↓] Go.wp_at_zero Go.wp_at_succ

theorem Try.info54 : (Try.prog.info? 54).map (fun i => (i.zero, i.size, i.bytes)) = some (some (.int .u64 0), 1, 8) := by kernel_rfl
theorem u64_cell {w : World} {base g c n : Nat} {xs : List Nat} (h : w.ownsRow base 54 1 (.slice (some ⟨g, 0, none⟩) n c) n (xs.map fun (x : Nat) => Value.int .u64 (x : Int))) (hl : xs.length = n) {p : Nat} (hp : p < n) : w.cell? ⟨g, p, none⟩ = some (.int .u64 ((xs.getD p 0 : Nat) : Int)) ∧ w.frozen? ⟨g, p, none⟩ = false := by
  refine ⟨?_, h.frozenAt _⟩
  rw [h.cellAt _ (by omega), List.getElem?_map, List.getElem?_eq_getElem (by omega), List.getD_eq_getElem?_getD, List.getElem?_eq_getElem (by omega)]
  rfl
/-- a row of numbers of 64 bits, in block g -/
def RowU (w : World) (base g n : Nat) (xs : List Nat) : Prop := w.ownsRow base 54 1 (.slice (some ⟨g, 0, none⟩) n n) n (xs.map fun (x : Nat) => Value.int .u64 (x : Int))
theorem RowU.below {w w' : World} {base g n : Nat} {xs : List Nat} (h : RowU w base g n xs) (hb : Below w.heap.size w w') : RowU w' base g n xs := own_below h hb
theorem RowU.set {w : World} {base g n : Nat} {xs : List Nat} (h : RowU w base g n xs) (j x : Nat) : RowU (w.setCell ⟨g, j, none⟩ (.int .u64 (x : Int))) base g n (xs.set j x) := by
  unfold RowU
  rw [List.map_set]
  exact (World.ownsRow.stored h j _).1
theorem RowU.far {w : World} {base g g' n : Nat} {xs : List Nat} (h : RowU w base g n xs) (hne : g ≠ g') (j : Nat) (v : Value) : RowU (w.setCell ⟨g', j, none⟩ v) base g n xs :=
  ownsRow_setCell_other (a := ⟨g', j, none⟩) h (fun e => hne (by injection e)) _
theorem RowU.lt {w : World} {base g n : Nat} {xs : List Nat} (h : RowU w base g n xs) : base ≤ g ∧ g < w.heap.size := World.ownsRow.lt h g rfl
theorem RowU.cell {w : World} {base g n : Nat} {xs : List Nat} (h : RowU w base g n xs) (hl : xs.length = n) {p : Nat} (hp : p < n) : w.cell? ⟨g, p, none⟩ = some (.int .u64 ((xs.getD p 0 : Nat) : Int)) ∧ w.frozen? ⟨g, p, none⟩ = false := u64_cell h hl hp
theorem RowU.drew {w : World} {base g n : Nat} {xs : List Nat} (h : RowU w base g n xs) : RowU w.drew base g n xs := h
/-- l holds of each state how many words of i symbols are told from it on -/
def CntRow (d : D) (i : Nat) (l : List Nat) : Prop := l.length = d.A.length ∧ ∀ s : Nat, s < d.A.length → l.getD s 0 = sat (cntN d i (s : Int))
def oneN (b : Bool) : Nat := if b then 1 else 0
theorem cntRow_zero {d : D} {l : List Nat} (hl : l.length = d.A.length) (h : ∀ s : Nat, s < d.A.length → l.getD s 0 = oneN (d.acc (s : Int))) : CntRow d 0 l := ⟨hl, fun s hs => by
  rw [h s hs]
  unfold oneN
  simp only [cntN]
  split <;> rfl⟩
/-- the first s states are done, and of the next one the first x symbols -/
def CntIn (d : D) (i : Nat) (s x : Nat) (l : List Nat) : Prop := l.length = d.A.length ∧ (∀ t : Nat, t < s → l.getD t 0 = sat (cntN d (i + 1) (t : Int))) ∧ (s < d.A.length → l.getD s 0 = sat (cntX d i (s : Int) x)) ∧ ∀ t : Nat, s < t → t < d.A.length → l.getD t 0 = 0
theorem CntIn.init (d : D) (i : Nat) : CntIn d i 0 0 (List.replicate d.A.length 0) := by
  have hz : ∀ t : Nat, (List.replicate d.A.length 0).getD t 0 = 0 := fun t => by
    rw [List.getD_eq_getElem?_getD, List.getElem?_replicate]
    split <;> rfl
  exact ⟨by simp, fun t ht => by omega, fun _ => by rw [hz, cntX_zero]; rfl, fun t _ _ => hz t⟩
theorem CntIn.add {d : D} {i s x : Nat} {l : List Nat} (h : CntIn d i s x l) (hs : s < d.A.length) : CntIn d i s (x + 1) (l.set s (min (l.getD s 0 + sat (cntN d i (d.step (s : Int) (x : Int)))) 18446744073709551615)) := by
  obtain ⟨h1, h2, h3, h4⟩ := h
  have hne : ∀ t, s ≠ t → ∀ v, (l.set s v).getD t 0 = l.getD t 0 := fun t ht v => by rw [List.getD_eq_getElem?_getD, List.getElem?_set_ne ht, List.getD_eq_getElem?_getD]
  refine ⟨by rw [List.length_set]; exact h1, fun t ht => by rw [hne t (by omega)]; exact h2 t ht, fun _ => ?_, fun t ht ht' => by rw [hne t (by omega)]; exact h4 t ht ht'⟩
  rw [List.getD_eq_getElem?_getD, List.getElem?_set_self (by omega), Option.getD_some, h3 hs, cntX_succ]
  exact sat_add _ _
theorem CntIn.next {d : D} {i s x : Nat} {l : List Nat} (h : CntIn d i s x l) (hx : x = d.K.toNat) (hs : s < d.A.length) : CntIn d i (s + 1) 0 l := by
  obtain ⟨h1, h2, h3, h4⟩ := h
  refine ⟨h1, fun t ht => ?_, fun hs' => ?_, fun t ht ht' => h4 t (by omega) ht'⟩
  · by_cases e : t < s
    · exact h2 t e
    · have : t = s := by omega
      subst this
      rw [h3 hs, hx, cntX_all]
  · rw [h4 _ (by omega) hs', cntX_zero]; rfl
theorem CntIn.done {d : D} {i x : Nat} {l : List Nat} (h : CntIn d i d.A.length x l) : CntRow d (i + 1) l := ⟨h.1, fun s hs => h.2.1 s hs⟩
theorem getD_lt_sat {d : D} {i s x : Nat} {l : List Nat} (h : CntIn d i s x l) (hs : s < d.A.length) : l.getD s 0 ≤ 18446744073709551615 := by rw [h.2.2.1 hs]; exact sat_le _

set_option maxHeartbeats 4000000 in
set_option maxRecDepth 100000 in
theorem count_no (d : D) (n : Int) (An Aa : Option Addr) (cn ca : Nat) (w : World) (hd : DIn w d An Aa) (hr : d.right = false) :
    Calls Try.prog 60 #[dfaV d.K d.S An d.N.length cn Aa d.A.length ca, .int .i64 n] w (Ret (.tuple #[.int .u64 0, .int .i64 151]) w) := by
  have C27 := Lib.hid (fun W (hb : Below w.heap.size w W) => right_c (hd.up hb) cn ca)
  rw [hr] at C27
  have HW := Lib.hid (bel_new w (.cells #[.int .i64 d.K, .int .i64 d.S, .slice An d.N.length cn, .slice Aa d.A.length ca] 25))
  clear hd
  go_enter Try.func60, Try.ntmps60
  go_wp2_with (go_at_call 27; refine (C27.out _ HW.out).mono ?_; rintro e w1 ⟨rfl, hb⟩; replace HW := Lib.hid (bel_step HW.out hb); clear hb)
  go_ret2
  exact ⟨rfl, HW.out⟩
set_option maxHeartbeats 4000000 in
set_option maxRecDepth 100000 in
theorem count_neg (d : D) (n : Int) (An Aa : Option Addr) (cn ca : Nat) (w : World) (hd : DIn w d An Aa) (hr : d.right = true) (hn : n < 0) :
    Calls Try.prog 60 #[dfaV d.K d.S An d.N.length cn Aa d.A.length ca, .int .i64 n] w (Ret (.tuple #[.int .u64 0, .int .i64 0]) w) := by
  have C27 := Lib.hid (fun W (hb : Below w.heap.size w W) => right_c (hd.up hb) cn ca)
  rw [hr] at C27
  have HW := Lib.hid (bel_new w (.cells #[.int .i64 d.K, .int .i64 d.S, .slice An d.N.length cn, .slice Aa d.A.length ca] 25))
  clear hd
  go_enter Try.func60, Try.ntmps60
  go_wp2_with (go_at_call 27; refine (C27.out _ HW.out).mono ?_; rintro e w1 ⟨rfl, hb⟩; replace HW := Lib.hid (bel_step HW.out hb); clear hb)
  go_ret2
  exact ⟨rfl, HW.out⟩
set_option maxHeartbeats 16000000 in
set_option maxRecDepth 100000 in
theorem count_yes (d : D) (n : Int) (An Aa : Option Addr) (cn ca : Nat) (w : World) (hd : DIn w d An Aa) (hok : d.Ok) (hn : 0 ≤ n) (hn2 : n ≤ 9223372036854775807) :
    Calls Try.prog 60 #[dfaV d.K d.S An d.N.length cn Aa d.A.length ca, .int .i64 n] w (Ret (.tuple #[.int .u64 ((sat (cntN d n.toNat d.S) : Nat) : Int), .int .i64 0]) w) := by
  have C27 := Lib.hid (fun W (hb : Below w.heap.size w W) => right_c (hd.up hb) cn ca)
  rw [D.right_true.2 hok] at C27
  have hA2 : d.A.length ≤ 65536 := hok.2.2.2.1
  have hK1 : 1 ≤ d.K := hok.1
  have hK2 : d.K ≤ 512 := hok.2.1
  have hS1 : 0 ≤ d.S := hok.2.2.2.2.2.1
  have hS2 : d.S < d.A.length := hok.2.2.2.2.2.2.1
  have HD := Lib.hid hd; have HOK := Lib.hid hok
  obtain ⟨i54, hi, hz, hs, hb⟩ := info_parts Try.info54
  have HI := Lib.hid hi; have HZ := Lib.hid hz; have HS := Lib.hid hs; have HB := Lib.hid hb
  have HW := Lib.hid (bel_new w (.cells #[.int .i64 d.K, .int .i64 d.S, .slice An d.N.length cn, .slice Aa d.A.length ca] 25))
  have HBX := Lib.hid (Blk.new w 25 #[.int .i64 d.K, .int .i64 d.S, .slice An d.N.length cn, .slice Aa d.A.length ca])
  clear hi hz hs hb hd hok
  go_enter Try.func60, Try.ntmps60
  go_wp2_with fail
  refine (C27.out _ HW.out).mono ?_
  rintro e w1 ⟨rfl, hb⟩
  replace HW := Lib.hid (bel_step HW.out hb)
  replace HBX := Lib.hid (blk_below HBX.out hb)
  clear hb C27
  obtain ⟨⟨a0, a1, a2, a3⟩, _⟩ := blk4 HBX.out
  have hlt := HBX.out.lt
  go_wp2_with (refine wpList_make_full _ rfl (.tmp 19) (.tmp 19) 97 rfl w.heap.size 54 i54 (.int .u64 0) 1 Try.underlying97 HI.out HZ.out HS.out .i64 .i64 _ _ d.A.length rfl rfl rfl rfl ?b2 ?b3 ?b4 ?_)
  case b2 => rw [HB.out]; omega
  case b3 => unfold maxLen; omega
  case b4 => exact HW.out.size
  intro w2 hown2 hgr2
  rw [toList_madeCells_one] at hown2
  have hbel : Below w1.heap.size w1 w2 := (Touch.ofGrown hgr2).toBelow (Nat.le_refl _) (fun k hk e => by cases e)
  replace HW := Lib.hid (bel_step HW.out hbel)
  replace HBX := Lib.hid (blk_below HBX.out hbel)
  have HR0 : Hid (RowU w2 w.heap.size w1.heap.size d.A.length (List.replicate d.A.length 0)) := by
    show World.ownsRow _ _ _ _ _ _ _
    rw [List.map_replicate]; exact hown2
  have HL0 : Hid (∀ t : Nat, t < d.A.length → (List.replicate d.A.length 0).getD t 0 = if t < 0 then oneN (d.acc (t : Int)) else 0) := fun t ht => by
    rw [List.getD_eq_getElem?_getD, List.getElem?_replicate_of_lt ht]; rfl
  clear hown2 hgr2 hbel a0 a1 a2 a3 hlt
  generalize w1.heap.size = g at HR0 ⊢
  obtain ⟨⟨a0, a1, a2, a3⟩, _⟩ := blk4 HBX.out
  have hlt := HBX.out.lt
  go_wp2_with fail
  clear a0 a1 a2 a3 hlt
  go_loopw [7, 8, 24] (fun _ _ i wr => ∃ (j : Nat) (l : List Nat), i = .int .i64 j ∧ j ≤ d.A.length ∧ Hid (l.length = d.A.length) ∧ Hid (∀ t : Nat, t < d.A.length → l.getD t 0 = if t < j then oneN (d.acc (t : Int)) else 0) ∧ Hid (RowU wr w.heap.size g d.A.length l) ∧ Hid (BlkD wr w.heap.size d An cn Aa ca) ∧ Hid (Below w.heap.size w wr)) (fun _ _ i _ => d.A.length - (intOf i).toNat)
  case atStart => exact ⟨0, _, rfl, Nat.zero_le _, by simp [Hid], HL0, HR0, HBX, HW⟩
  case round =>
    clear HR0 HBX HW HL0
    obtain ⟨j, l, rfl, hj, HLL, HL, HR, HBX, HW⟩ := hrel
    by_cases hlt : j < d.A.length
    · obtain ⟨ga, oa, va, hAa, hga, hca, hva⟩ := (HD.out.ra.below HW.out).bool_at hlt
      have HVA : Hid (d.acc (j : Int) = va) := by
        show _ = _
        unfold D.acc
        rw [Int.toNat_natCast, List.getD_eq_getElem?_getD, hva]; rfl
      subst hAa
      have hlga : ga < wr.heap.size := Nat.lt_of_lt_of_le hga HW.out.size
      have hgl := HR.out.lt
      obtain ⟨hgl1, hgl2⟩ := hgl
      obtain ⟨q1, q2⟩ := HR.out.cell HLL.out hlt
      clear hva
      cases va
      · have HL2 : Hid (∀ t : Nat, t < d.A.length → l.getD t 0 = if t < j + 1 then oneN (d.acc (t : Int)) else 0) := fun t ht => by
          rw [HL.out t ht]
          by_cases e : t = j
          · subst e; rw [if_neg (by omega), if_pos (by omega), HVA.out]; rfl
          · by_cases e2 : t < j
            · rw [if_pos e2, if_pos (by omega)]
            · rw [if_neg e2, if_neg (by omega)]
        go_wp2_with fail
        go_roundw
        case rel => exact ⟨j + 1, l, by go_num, by omega, HLL, HL2, HR, HBX, HW⟩
        case measure => simp [intOf]; omega
      · have HL2 : Hid (∀ t : Nat, t < d.A.length → (l.set j 1).getD t 0 = if t < j + 1 then oneN (d.acc (t : Int)) else 0) := fun t ht => by
          by_cases e : t = j
          · subst e
            rw [List.getD_eq_getElem?_getD, List.getElem?_set_self (by rw [HLL.out]; exact ht), if_pos (by omega), HVA.out]; rfl
          · rw [List.getD_eq_getElem?_getD, List.getElem?_set_ne (Ne.symm e), ← List.getD_eq_getElem?_getD, HL.out t ht]
            by_cases e2 : t < j
            · rw [if_pos e2, if_pos (by omega)]
            · rw [if_neg e2, if_neg (by omega)]
        have HLL2 : Hid ((l.set j 1).length = d.A.length) := by show _ = _; rw [List.length_set]; exact HLL.out
        have HR2 := Lib.hid (HR.out.set j 1)
        have HBX2 : Hid (BlkD (wr.setCell ⟨g, j, none⟩ (.int .u64 ((1 : Nat) : Int))) w.heap.size d An cn (some ⟨ga, oa, none⟩) ca) := HBX.out.far (by
          have := own_ne_blk (World.ownsRow.mono HR.out (Nat.le_refl _)) HBX.out (by decide)
          intro e; exact this (by show some g = _; rw [e])) _
        have HW2 := Lib.hid (HW.out.setCell (p := ⟨g, j, none⟩) hgl1 (.int .u64 ((1 : Nat) : Int)))
        go_wp2_with fail
        go_roundw
        case rel => exact ⟨j + 1, l.set j 1, by go_num, by omega, HLL2, HL2, HR2, HBX2, HW2⟩
        case measure => simp [intOf]; omega
    · obtain rfl : j = d.A.length := by omega
      have HC0 : Hid (CntRow d 0 l) := cntRow_zero HLL.out fun s hs => by rw [HL.out s hs, if_pos hs]
      clear HL HLL
      go_wp2_with fail
      go_loopw [6, 9, 10, 11, 35, 42, 47] (fun l0 _ _ _ iI _ _ wr => ∃ (i g : Nat) (l : List Nat), l0 = .slice (some ⟨g, 0, none⟩) d.A.length d.A.length ∧ iI = .int .i64 i ∧ (i : Int) ≤ n ∧ Hid (CntRow d i l) ∧ Hid (RowU wr w.heap.size g d.A.length l) ∧ Hid (BlkD wr w.heap.size d An cn Aa ca) ∧ Hid (Below w.heap.size w wr)) (fun _ _ _ _ iI _ _ _ => (n - intOf iI).toNat)
      case atStart => exact ⟨0, g, l, rfl, rfl, hn, HC0, HR, HBX, HW⟩
      case round =>
        clear HC0 HR HBX HW hlt
        obtain ⟨i, g, l, rfl, rfl, hin, HC, HR, HBX, HW⟩ := hrel
        by_cases hlt : (i : Int) < n
        · go_wp2_with (refine wpList_make_full _ rfl (.tmp 38) (.tmp 38) 97 rfl w.heap.size 54 i54 (.int .u64 0) 1 Try.underlying97 HI.out HZ.out HS.out .i64 .i64 _ _ d.A.length rfl rfl rfl rfl ?e2 ?e3 ?e4 ?_)
          case e2 => rw [HB.out]; omega
          case e3 => unfold maxLen; omega
          case e4 => exact HW.out.size
          intro w2 hown2 hgr2
          rw [toList_madeCells_one] at hown2
          have hbel : Below wr.heap.size wr w2 := (Touch.ofGrown hgr2).toBelow (Nat.le_refl _) (fun k hk e => by cases e)
          have hgl := HR.out.lt
          have HGNE : Hid (g ≠ wr.heap.size) := by show _ ≠ _; omega
          replace HW := Lib.hid (bel_step HW.out hbel)
          replace HBX := Lib.hid (blk_below HBX.out hbel)
          replace HR := Lib.hid (HR.out.below hbel)
          have HR0 : Hid (RowU w2 w.heap.size wr.heap.size d.A.length (List.replicate d.A.length 0)) := by
            show World.ownsRow _ _ _ _ _ _ _
            rw [List.map_replicate]; exact hown2
          have HN0 := Lib.hid (CntIn.init d i)
          clear hown2 hgr2 hbel hgl
          generalize wr.heap.size = g2 at HR0 HGNE ⊢
          go_wp2_with fail
          go_loopw [10, 11, 42, 47] (fun _ _ sI _ wr => ∃ (s : Nat) (nx : List Nat), sI = .int .i64 s ∧ s ≤ d.A.length ∧ Hid (CntIn d i s 0 nx) ∧ Hid (RowU wr w.heap.size g2 d.A.length nx) ∧ Hid (RowU wr w.heap.size g d.A.length l) ∧ Hid (BlkD wr w.heap.size d An cn Aa ca) ∧ Hid (Below w.heap.size w wr)) (fun _ _ sI _ _ => d.A.length - (intOf sI).toNat)
          case atStart => exact ⟨0, _, rfl, Nat.zero_le _, HN0, HR0, HR, HBX, HW⟩
          case round =>
            clear HN0 HR0 HR HBX HW
            obtain ⟨s, nx, rfl, hsl, HN, HR0, HR, HBX, HW⟩ := hrel
            by_cases hsl' : s < d.A.length
            · obtain ⟨⟨a0, a1, a2, a3⟩, _⟩ := blk4 HBX.out
              have hltb := HBX.out.lt
              go_wp2_with fail
              clear a0 a1 a2 a3 hltb
              go_loopw [11, 47] (fun _ xI wr => ∃ (x : Nat) (nx : List Nat), xI = .int .i64 x ∧ (x : Int) ≤ d.K ∧ Hid (CntIn d i s x nx) ∧ Hid (RowU wr w.heap.size g2 d.A.length nx) ∧ Hid (RowU wr w.heap.size g d.A.length l) ∧ Hid (BlkD wr w.heap.size d An cn Aa ca) ∧ Hid (Below w.heap.size w wr)) (fun _ xI _ => (d.K - intOf xI).toNat)
              case atStart => exact ⟨0, nx, rfl, by omega, HN, HR0, HR, HBX, HW⟩
              case round =>
                clear HN HR0 HR HBX HW
                obtain ⟨x, nx, rfl, hxK, HN, HR0, HR, HBX, HW⟩ := hrel
                obtain ⟨⟨a0, a1, a2, a3⟩, _⟩ := blk4 HBX.out
                have hltb := HBX.out.lt
                by_cases hxl : (x : Int) < d.K
                · have hmb := HOK.out.mul_bd (s := (s : Int)) ⟨by omega, by omega⟩
                  have hix := HOK.out.idx (s := (s : Int)) (x := (x : Int)) ⟨by omega, by omega⟩ ⟨by omega, hxl⟩
                  obtain ⟨gn, on, q, hAn, hgn, hcq, hq⟩ := (HD.out.rn.below HW.out).int_ix hix.1 hix.2
                  have hqr := HOK.out.step_lt (s := (s : Int)) (x := (x : Int)) ⟨by omega, by omega⟩ ⟨by omega, hxl⟩
                  have hst : d.step s x = q := hq
                  rw [hst] at hqr
                  obtain ⟨q0, q1⟩ := hqr
                  obtain ⟨hm1, hm2⟩ := hmb
                  obtain ⟨hi1, hi2⟩ := hix
                  subst hAn
                  have v1 : IntKind.i64.wrap ((s : Int) * d.K) = (s : Int) * d.K := by rw [IntKind.wrap_i64]; omega
                  have v2 : IntKind.i64.wrap ((s : Int) * d.K + x) = (s : Int) * d.K + x := by rw [IntKind.wrap_i64]; omega
                  obtain ⟨c1, c1z⟩ := HR0.out.cell HN.out.1 hsl'
                  obtain ⟨c2, _⟩ := HR.out.cell HC.out.1 (p := q.toNat) (by omega)
                  have hgl := HR.out.lt
                  have hgl2 := HR0.out.lt
                  obtain ⟨hg1, hg2⟩ := hgl
                  obtain ⟨hg3, hg4⟩ := hgl2
                  have hlgn : gn < wr.heap.size := Nat.lt_of_lt_of_le hgn HW.out.size
                  have HA := Lib.hid (HN.out.add (x := x) hsl')
                  have hu := getD_lt_sat HN.out hsl'
                  have hv : l.getD q.toNat 0 = sat (cntN d i q) := by
                    have h := HC.out.2 q.toNat (by omega)
                    rwa [Int.toNat_of_nonneg q0] at h
                  rw [hv] at c2
                  rw [hst] at HA
                  have hv2 := sat_le (cntN d i q)
                  generalize hvv : sat (cntN d i q) = v at c2 HA hv2
                  generalize huu : nx.getD s 0 = u at c1 HA hu
                  have C97 := Lib.hid (fun W => plus_any u v W hu hv2)
                  have HNE := Lib.hid (show w.heap.size ≠ g2 from fun e => own_ne_blk (World.ownsRow.mono HR0.out (Nat.le_refl _)) HBX.out (by decide) (by show some g2 = _; rw [e]))
                  have HR02 := Lib.hid (HR0.out.drew.set s (min (u + v) 18446744073709551615))
                  have HR2 : Hid (RowU (wr.drew.setCell ⟨g2, s, none⟩ (.int .u64 ((min (u + v) 18446744073709551615 : Nat) : Int))) w.heap.size g d.A.length l) := HR.out.drew.far HGNE.out _ _
                  have HBX2 : Hid (BlkD (wr.drew.setCell ⟨g2, s, none⟩ (.int .u64 ((min (u + v) 18446744073709551615 : Nat) : Int))) w.heap.size d (some ⟨gn, on, none⟩) cn Aa ca) := HBX.out.drew.far HNE.out _
                  have HW2 := Lib.hid (HW.out.drew.setCell (p := ⟨g2, s, none⟩) hg3 (.int .u64 ((min (u + v) 18446744073709551615 : Nat) : Int)))
                  clear hq hst hu hv hv2 hvv huu hgn
                  generalize min (u + v) 18446744073709551615 = r at HR02 HR2 HBX2 HW2 HA C97
                  go_wp2_with fail
                  go_still_tail 21, (by kernel_rfl)
                  still_call ((C97.out _).mono fun e w' ⟨h1, h2⟩ => ⟨h1, h2.symm⟩)
                  repeat still_step
                  refine wpStill_nil ?_
                  change wpList _ _ _ _ _ wr.drew
                  go_wp2_with fail
                  go_roundw
                  case rel => exact ⟨x + 1, _, by go_num, by omega, HA, HR02, HR2, HBX2, HW2⟩
                  case measure => simp [intOf]; omega
                · have HNX : Hid (CntIn d i (s + 1) 0 nx) := HN.out.next (by omega) hsl'
                  go_wp2_with fail
                  go_roundw
                  case rel => exact ⟨s + 1, nx, by go_num, by omega, HNX, HR0, HR, HBX, HW⟩
                  case measure => simp [intOf]; omega
            · obtain rfl : s = d.A.length := by omega
              have HCR := Lib.hid HN.out.done
              go_wp2_with fail
              go_roundw
              case rel => exact ⟨i + 1, g2, nx, rfl, by go_num, by omega, HCR, HR0, HBX, HW⟩
              case measure => simp [intOf]; omega
        · obtain rfl : n = (i : Int) := by omega
          obtain ⟨c2, _⟩ := HR.out.cell HC.out.1 (p := d.S.toNat) (by omega)
          have hv : l.getD d.S.toNat 0 = sat (cntN d i d.S) := by
            have h := HC.out.2 d.S.toNat (by omega)
            rwa [Int.toNat_of_nonneg hS1] at h
          rw [hv] at c2
          obtain ⟨⟨a0, a1, a2, a3⟩, _⟩ := blk4 HBX.out
          have hltb := HBX.out.lt
          have hgl := HR.out.lt
          obtain ⟨hg1, hg2⟩ := hgl
          clear hv
          go_wp2_with fail
          go_ret2
          exact ⟨rfl, HW.out⟩
end Go.Proofs.Ytmpcoclgcldclaa
