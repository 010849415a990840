/- The walks of the laws PathsetMatch and PathsetWords. -/
import Derived.Test.YtmpcoclgcldclaaL19
namespace Go.Proofs.Ytmpcoclgcldclaa
open Go.RowKit
attribute [local go_sem ↓] Go.wp_at_zero Go.wp_at_succ

theorem match_long {o s : ByteArray} (ho : o.size ≤ 59999) (hl : longB s = true) : (matchD o).tells (wordL s) = pathOf (bs s) (bs o) := by
  obtain ⟨h3, h4⟩ := longB_iff.1 hl
  rw [wordL_yes h3, matchD_tells ho (symW_syms h3), decide_eq_true (symW_head h3 h4), (bytW_symW h3).1]; rfl
set_option maxHeartbeats 2000000 in
set_option maxRecDepth 100000 in
theorem pathsetMatch_law (o s : ByteArray) (ho : o.size ≤ 9223372036854775807) (hs : s.size ≤ 9223372036854775807) (w : World) : Calls Try.prog 20 #[.string o, .string s] w (Ret (.bool true) w) := by
  by_cases h1 : 200 < o.size
  · have h1i : (200 : Int) < o.size := by omega
    go_enter Try.func20, Try.ntmps20
    go_wp2_with fail
    refine (pathsetAlive_any w).mono ?_
    rintro e w1 ⟨rfl, hb1⟩
    go_wp2_with fail
    go_ret
    exact ⟨rfl, hb1⟩
  by_cases h2 : 300 < s.size
  · have h1i : (o.size : Int) ≤ 200 := by omega
    have h2i : (300 : Int) < s.size := by omega
    go_enter Try.func20, Try.ntmps20
    go_wp2_with fail
    refine (pathsetAlive_any w).mono ?_
    rintro e w1 ⟨rfl, hb1⟩
    go_wp2_with fail
    go_ret
    exact ⟨rfl, hb1⟩
  have h1i : (o.size : Int) ≤ 200 := by omega
  have h2i : (s.size : Int) ≤ 300 := by omega
  have c69 := fun (W : World) => long_any s (by omega) W
  rcases hl : longB s with _ | _
  · rw [hl] at c69
    have C69 := Lib.hid c69
    clear c69
    go_enter Try.func20, Try.ntmps20
    go_wp2_with fail
    refine (pathsetAlive_any w).mono ?_
    rintro e w1 ⟨rfl, hb1⟩
    have HB1 := Lib.hid hb1
    clear hb1
    go_wp2_with fail
    refine (C69.out _).mono ?_
    rintro e w2 ⟨rfl, hb⟩
    have HB2 := Lib.hid (bel_step HB1.out hb)
    clear hb
    go_wp2_with fail
    go_ret
    exact ⟨rfl, HB2.out⟩
  · rw [hl] at c69
    have C69 := Lib.hid c69
    obtain ⟨hok, hK, hA⟩ := matchD_ok (s := o) (by omega)
    have ht := match_long (o := o) (by omega) hl
    have hm := fun W => match_any o (by omega) W
    have c72 := fun (W : World) => path9_any s o hs ho W
    rw [← ht] at c72
    obtain ⟨d, hd⟩ : ∃ d, d = matchD o := ⟨_, rfl⟩
    rw [← hd] at hok hK hA hm c72
    obtain ⟨b, hb⟩ : ∃ b, b = d.tells (wordL s) := ⟨_, rfl⟩
    have c71 := fun (W : World) (An Aa : Option Addr) (cn ca : Nat) (h : DIn W d An Aa) => tells19_c h cn ca s (by omega)
    have c28 := fun (W : World) (An Aa : Option Addr) (cn ca : Nat) (h : DIn W d An Aa) => refRight_c h cn ca
    rw [D.right_true.2 hok] at c28
    rw [← hb] at c71 c72
    have HM := Lib.hid hm; have C71 := Lib.hid c71; have C72 := Lib.hid c72; have C28 := Lib.hid c28
    have HSZ := Lib.hid hok.sizes
    have hK2 : (d.K == 92) = true := by rw [hK]; rfl
    have hA2 : (d.A.length : Int) ≤ (o.size : Int) + 4 := by omega
    have v1 : IntKind.i64.wrap ((o.size : Int) + 4) = (o.size : Int) + 4 := by rw [IntKind.wrap_i64]; omega
    clear c69 c71 c72 c28 hm hd hb hok hK hA ht hl
    go_enter Try.func20, Try.ntmps20
    go_wp2_with fail
    refine (pathsetAlive_any w).mono ?_
    rintro e w1 ⟨rfl, hb1⟩
    have HB1 := Lib.hid hb1
    clear hb1
    go_wp2_with fail
    refine (C69.out _).mono ?_
    rintro e w2 ⟨rfl, hb⟩
    have HB2 := Lib.hid (bel_step HB1.out hb)
    clear hb
    go_wp2_with fail
    refine (HM.out _).mono ?_
    rintro e w3 ⟨v, rfl, hd, hb⟩
    obtain ⟨AN, cN, AA, cA, rfl, hdi⟩ := hd.din HSZ.out
    have HH := Lib.hid (HasD.new hdi cN cA)
    have HW := Lib.hid (bel_alloc (bel_step HB2.out hb) (.cells #[.int .i64 d.K, .int .i64 d.S, .slice AN d.N.length cN, .slice AA d.A.length cA] 25))
    clear hd hb hdi
    go_wp2_with fail
    refine (C28.out _ _ _ _ _ HH.out.din).mono ?_
    rintro e w4 ⟨rfl, hb⟩
    have HH4 := Lib.hid (HH.out.up hb)
    have HW4 := Lib.hid (bel_step HW.out hb)
    obtain ⟨b0, b1, b2, b3⟩ := HH4.out.cells
    have ltb4 := HH4.out.lt
    clear hb
    go_wp2_with fail
    refine (C71.out _ _ _ _ _ HH4.out.din).mono ?_
    rintro e w5 ⟨rfl, hb⟩
    have HW5 := Lib.hid (bel_step HW4.out hb)
    clear hb
    go_wp2_with fail
    refine (C72.out _).mono ?_
    rintro e w6 ⟨rfl, hb⟩
    have HW6 := Lib.hid (bel_step HW5.out hb)
    clear hb
    go_wp2_with fail
    go_ret
    exact ⟨ret_bool (by simp), HW6.out⟩
set_option maxHeartbeats 2000000 in
set_option maxRecDepth 100000 in
theorem pathsetWords_law (o : ByteArray) (ws : List Int) (A : Option Addr) (c : Nat) (ho : o.size ≤ 9223372036854775807) (w : World) (hw : WIn w ws A) : Calls Try.prog 21 #[.string o, .slice A ws.length c] w (Ret (.bool true) w) := by
  have HLw := hw.l
  by_cases h1 : 200 < o.size
  · have h1i : (200 : Int) < o.size := by omega
    go_enter Try.func21, Try.ntmps21
    go_wp2_with fail
    refine (pathsetAlive_any w).mono ?_
    rintro e w1 ⟨rfl, hb1⟩
    go_wp2_with fail
    go_ret
    exact ⟨rfl, hb1⟩
  by_cases h2 : 300 < ws.length
  · have h1i : (o.size : Int) ≤ 200 := by omega
    go_enter Try.func21, Try.ntmps21
    go_wp2_with fail
    refine (pathsetAlive_any w).mono ?_
    rintro e w1 ⟨rfl, hb1⟩
    go_wp2_with fail
    go_ret
    exact ⟨rfl, hb1⟩
  have h1i : (o.size : Int) ≤ 200 := by omega
  obtain ⟨hok, hK, hA⟩ := matchD_ok (s := o) (by omega)
  have hm := fun W => match_any o (by omega) W
  have htn : symsB 92 ws = false → (matchD o).tells ws = false := fun h => D.tells_no (by rw [hK]; exact h)
  have hty : symsB 92 ws = true → (matchD o).tells ws = (decide (ws[0]? = some 13) && pathOf (bytW ws) (bs o)) := fun h => matchD_tells (by omega) h
  obtain ⟨d, hd⟩ : ∃ d, d = matchD o := ⟨_, rfl⟩
  rw [← hd] at hok hm htn hty
  have c30 := fun (W : World) (An Aa : Option Addr) (cn ca : Nat) (hb : Below w.heap.size w W) (h : DIn W d An Aa) => refTells_c h (hw.up hb) cn ca c
  have c68 := fun (W : World) (hb : Below w.heap.size w W) => refFrom_any ws A c (by omega) W (hw.up hb)
  have HM := Lib.hid hm
  have HSZ := Lib.hid hok.sizes
  clear hm hd hok hK hA hw
  rcases hs : symsB 92 ws with _ | _
  · rw [htn hs] at c30
    rw [textV_no hs] at c68
    have C30 := Lib.hid c30; have C68 := Lib.hid c68
    clear c30 c68 htn hty hs
    go_enter Try.func21, Try.ntmps21
    go_wp2_with fail
    refine (pathsetAlive_any w).mono ?_
    rintro e w1 ⟨rfl, hb1⟩
    have HB1 := Lib.hid hb1
    clear hb1
    go_wp2_with fail
    refine (HM.out _).mono ?_
    rintro e w3 ⟨v, rfl, hd, hb⟩
    obtain ⟨AN, cN, AA, cA, rfl, hdi⟩ := hd.din HSZ.out
    have HH := Lib.hid (HasD.new hdi cN cA)
    have HW := Lib.hid (bel_alloc (bel_step HB1.out hb) (.cells #[.int .i64 d.K, .int .i64 d.S, .slice AN d.N.length cN, .slice AA d.A.length cA] 25))
    clear hd hb hdi
    go_wp2_with fail
    refine (C68.out _ HW.out).mono ?_
    rintro e w4 ⟨rfl, hb⟩
    have HH4 := Lib.hid (HH.out.up hb)
    have HW4 := Lib.hid (bel_step HW.out hb)
    obtain ⟨b0, b1, b2, b3⟩ := HH4.out.cells
    have ltb4 := HH4.out.lt
    clear hb
    go_wp2_with fail
    refine (C30.out _ _ _ _ _ HW4.out HH4.out.din).mono ?_
    rintro e w5 ⟨rfl, hb⟩
    have HW5 := Lib.hid (bel_step HW4.out hb)
    clear hb
    go_wp2_with fail
    go_ret
    exact ⟨rfl, HW5.out⟩
  · have hlt := long_text hs
    have hbt := bs_text hs
    have hts := text_size ws
    rw [textV_yes hs] at c68
    have ht := hty hs
    rw [← hbt, ← hlt] at ht
    obtain ⟨T, hT⟩ : ∃ T, T = strOfNums (bytW ws) := ⟨_, rfl⟩
    rw [← hT] at c68 ht hts
    have c69 := fun (W : World) => long_any T (by omega) W
    have c72 := fun (W : World) => path9_any T o (by omega) ho W
    obtain ⟨b, hb⟩ : ∃ b, b = longB T := ⟨_, rfl⟩
    obtain ⟨q, hq⟩ : ∃ q, q = pathOf (bs T) (bs o) := ⟨_, rfl⟩
    rw [← hb, ← hq] at ht
    rw [← hb] at c69
    rw [← hq] at c72
    rw [ht] at c30
    have C30 := Lib.hid c30; have C68 := Lib.hid c68; have C69 := Lib.hid c69; have C72 := Lib.hid c72
    clear c30 c68 c69 c72 htn hty hs hlt hbt hts ht hT hb hq
    cases b with
    | false =>
      go_enter Try.func21, Try.ntmps21
      go_wp2_with fail
      refine (pathsetAlive_any w).mono ?_
      rintro e w1 ⟨rfl, hb1⟩
      have HB1 := Lib.hid hb1
      clear hb1
      go_wp2_with fail
      refine (HM.out _).mono ?_
      rintro e w3 ⟨v, rfl, hd, hb⟩
      obtain ⟨AN, cN, AA, cA, rfl, hdi⟩ := hd.din HSZ.out
      have HH := Lib.hid (HasD.new hdi cN cA)
      have HW := Lib.hid (bel_alloc (bel_step HB1.out hb) (.cells #[.int .i64 d.K, .int .i64 d.S, .slice AN d.N.length cN, .slice AA d.A.length cA] 25))
      clear hd hb hdi
      go_wp2_with fail
      refine (C68.out _ HW.out).mono ?_
      rintro e w4 ⟨rfl, hb⟩
      have HH4 := Lib.hid (HH.out.up hb)
      have HW4 := Lib.hid (bel_step HW.out hb)
      obtain ⟨b0, b1, b2, b3⟩ := HH4.out.cells
      have ltb4 := HH4.out.lt
      clear hb
      go_wp2_with fail
      refine (C30.out _ _ _ _ _ HW4.out HH4.out.din).mono ?_
      rintro e w5 ⟨rfl, hb⟩
      have HW5 := Lib.hid (bel_step HW4.out hb)
      clear hb
      go_wp2_with fail
      refine (C69.out _).mono ?_
      rintro e w6 ⟨rfl, hb⟩
      have HW6 := Lib.hid (bel_step HW5.out hb)
      clear hb
      go_wp2_with fail
      go_ret
      exact ⟨ret_bool (by simp), HW6.out⟩
    | true =>
      go_enter Try.func21, Try.ntmps21
      go_wp2_with fail
      refine (pathsetAlive_any w).mono ?_
      rintro e w1 ⟨rfl, hb1⟩
      have HB1 := Lib.hid hb1
      clear hb1
      go_wp2_with fail
      refine (HM.out _).mono ?_
      rintro e w3 ⟨v, rfl, hd, hb⟩
      obtain ⟨AN, cN, AA, cA, rfl, hdi⟩ := hd.din HSZ.out
      have HH := Lib.hid (HasD.new hdi cN cA)
      have HW := Lib.hid (bel_alloc (bel_step HB1.out hb) (.cells #[.int .i64 d.K, .int .i64 d.S, .slice AN d.N.length cN, .slice AA d.A.length cA] 25))
      clear hd hb hdi
      go_wp2_with fail
      refine (C68.out _ HW.out).mono ?_
      rintro e w4 ⟨rfl, hb⟩
      have HH4 := Lib.hid (HH.out.up hb)
      have HW4 := Lib.hid (bel_step HW.out hb)
      obtain ⟨b0, b1, b2, b3⟩ := HH4.out.cells
      have ltb4 := HH4.out.lt
      clear hb
      go_wp2_with fail
      refine (C30.out _ _ _ _ _ HW4.out HH4.out.din).mono ?_
      rintro e w5 ⟨rfl, hb⟩
      have HW5 := Lib.hid (bel_step HW4.out hb)
      clear hb
      go_wp2_with fail
      refine (C69.out _).mono ?_
      rintro e w6 ⟨rfl, hb⟩
      have HW6 := Lib.hid (bel_step HW5.out hb)
      clear hb
      go_wp2_with fail
      refine (C72.out _).mono ?_
      rintro e w7 ⟨rfl, hb⟩
      have HW7 := Lib.hid (bel_step HW6.out hb)
      clear hb
      go_wp2_with fail
      go_ret
      exact ⟨ret_bool (by simp), HW7.out⟩
end Go.Proofs.Ytmpcoclgcldclaa
