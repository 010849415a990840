/- The walks of pathset.Prefix and of the laws PathsetPrefix, PathsetBack. -/
import Derived.Test.YtmpcoclgcldclaaL20
namespace Go.Proofs.Ytmpcoclgcldclaa
open Go.RowKit
attribute [local go_sem ↓] Go.wp_at_zero Go.wp_at_succ

set_option maxHeartbeats 1000000 in
set_option maxRecDepth 100000 in
theorem prefix_no (s : ByteArray) (hs : s.size ≤ 60000) (hp : pathOk s = false) (w : World) : Calls Try.prog 76 #[.string s] w (Gives w zeroD 43) := by
  have c111 := fun (W : World) => urlPath_any s (by omega) W
  rw [hp] at c111
  have C111 := Lib.hid c111
  clear c111 hp
  go_enter Try.func76, Try.ntmps76
  go_wp2_with fail
  refine (C111.out _).mono ?_
  rintro e w1 ⟨rfl, hb⟩
  have hb1 := blk_below (Blk.new w 25 #[.int .i64 0, .int .i64 0, .slice none 0 0, .slice none 0 0]) hb
  obtain ⟨⟨p0, p1, p2, p3⟩, z0, z1, z2, z3⟩ := blk4 hb1
  have HB := Lib.hid hb
  clear hb hb1
  go_wp2_with fail
  refine bodyPost_ret (v := .tuple #[.agg #[.int .i64 0, .int .i64 0, .slice none 0 0, .slice none 0 0], .int .i64 43]) ?_ rfl ?_
  · simp [results, Try.results76, go_sem, p0, p1, p2, p3]
  · exact ⟨_, rfl, gives_end (DfaR.zero _ _) HB.out _ _ _ _⟩
set_option maxHeartbeats 1000000 in
set_option maxRecDepth 100000 in
theorem prefix_yes (s : ByteArray) (hs : s.size ≤ 60000) (hp : pathOk s = true) (w : World) : Calls Try.prog 76 #[.string s] w (Gives w (begD s) 0) := by
  have c111 := fun (W : World) => urlPath_any s (by omega) W
  rw [hp] at c111
  have C111 := Lib.hid c111
  have C103 := Lib.hid (fun W => pbegins_any s hs W)
  obtain ⟨d, hd⟩ : ∃ d, d = begD s := ⟨_, rfl⟩
  rw [← hd] at C103 ⊢
  clear c111 hp hd
  go_enter Try.func76, Try.ntmps76
  go_wp2_with fail
  refine (C111.out _).mono ?_
  rintro e w1 ⟨rfl, hb⟩
  have HB := Lib.hid hb
  clear hb
  go_wp2_with fail
  refine (C103.out _).mono ?_
  rintro e w2 ⟨v, rfl, hd, hb⟩
  obtain ⟨AN, cN, AA, cA, rfl⟩ := hd.form
  have hb1 := blk_below (Blk.new w 25 #[.int .i64 0, .int .i64 0, .slice none 0 0, .slice none 0 0]) (bel_step HB.out hb)
  obtain ⟨⟨p0, p1, p2, p3⟩, z0, z1, z2, z3⟩ := blk4 hb1
  have HD := Lib.hid hd; have HB2 := Lib.hid hb
  clear hd hb hb1
  go_wp2_with fail
  refine bodyPost_ret (v := .tuple #[dfaV d.K d.S AN d.N.length cN AA d.A.length cA, .int .i64 0]) ?_ rfl ?_
  · simp [results, Try.results76, go_sem, p0, p1, p2, p3]
  · exact ⟨_, rfl, gives_mid HB.out HD.out HB2.out _ _ _ _⟩
theorem begins_long {o s : ByteArray} (ho : o.size ≤ 60000) (hl : longB s = true) : (begD o).tells (wordL s) = preOf (bs s) (bs o) := by
  obtain ⟨h3, h4⟩ := longB_iff.1 hl
  rw [wordL_yes h3, begD_tells ho (symW_syms h3), (bytW_symW h3).1]
  unfold preOf
  by_cases h : (bs s).take (bs o).length = bs o
  · have hl := congrArg List.length h
    rw [List.length_take] at hl
    rw [decide_eq_true h, decide_eq_true (show (bs o).length ≤ (bs s).length by omega)]; rfl
  · rw [decide_eq_false h, Bool.and_false]
theorem begD_len {s : ByteArray} : (begD s).A.length ≤ s.size + 2 := by
  unfold begD
  split
  · rw [chainD_len, symW_len, bs_len]; exact Nat.le_refl _
  · show 1 ≤ _; omega
set_option maxHeartbeats 4000000 in
set_option maxRecDepth 100000 in
theorem pathsetPrefix_law (o s : ByteArray) (ho : o.size ≤ 9223372036854775807) (hs : s.size ≤ 9223372036854775807) (w : World) : Calls Try.prog 23 #[.string o, .string s] w (Ret (.bool true) w) := by
  by_cases h1 : 200 < o.size ∧ o.size < 2000
  · have h1i : (200 : Int) < o.size := by omega
    have h1j : (o.size : Int) < 2000 := by omega
    go_enter Try.func23, Try.ntmps23
    go_wp2_with fail
    refine (pathsetAlive_any _).mono ?_
    rintro e w1 ⟨rfl, hb⟩
    have HW1 := Lib.hid hb
    clear hb
    go_wp2_with fail
    go_ret
    exact ⟨rfl, HW1.out⟩
  by_cases h2 : 2100 < o.size
  · have h1i : (200 : Int) < o.size := by omega
    have h1j : (2000 : Int) ≤ o.size := by omega
    have h2i : (2100 : Int) < o.size := by omega
    go_enter Try.func23, Try.ntmps23
    go_wp2_with fail
    refine (pathsetAlive_any _).mono ?_
    rintro e w1 ⟨rfl, hb⟩
    have HW1 := Lib.hid hb
    clear hb
    go_wp2_with fail
    go_ret
    exact ⟨rfl, HW1.out⟩
  have h2i : (o.size : Int) ≤ 2100 := by omega
  have hw : ((o.size : Int) ≤ 200) ∨ ((200 : Int) < o.size ∧ (2000 : Int) ≤ o.size) := by omega
  by_cases h3 : 300 < s.size
  · have h3i : (300 : Int) < s.size := by omega
    rcases hw with hw | ⟨hw, hw2⟩
    · skip
      go_enter Try.func23, Try.ntmps23
      go_wp2_with fail
      refine (pathsetAlive_any _).mono ?_
      rintro e w1 ⟨rfl, hb⟩
      have HW1 := Lib.hid hb
      clear hb
      go_wp2_with fail
      go_ret
      exact ⟨rfl, HW1.out⟩
    · skip
      go_enter Try.func23, Try.ntmps23
      go_wp2_with fail
      refine (pathsetAlive_any _).mono ?_
      rintro e w1 ⟨rfl, hb⟩
      have HW1 := Lib.hid hb
      clear hb
      go_wp2_with fail
      go_ret
      exact ⟨rfl, HW1.out⟩
  have h3i : (s.size : Int) ≤ 300 := by omega
  have c69 := fun (W : World) => long_any s (by omega) W
  rcases hl : longB s with _ | _
  · rw [hl] at c69
    have C69 := Lib.hid c69
    clear c69 hl
    rcases hw with hw | ⟨hw, hw2⟩
    · skip
      go_enter Try.func23, Try.ntmps23
      go_wp2_with fail
      refine (pathsetAlive_any _).mono ?_
      rintro e w1 ⟨rfl, hb⟩
      have HW1 := Lib.hid hb
      clear hb
      go_wp2_with fail
      refine (C69.out _).mono ?_
      rintro e w2 ⟨rfl, hb⟩
      have HW2 := Lib.hid (bel_step HW1.out hb)
      clear hb
      go_wp2_with fail
      go_ret
      exact ⟨rfl, HW2.out⟩
    · skip
      go_enter Try.func23, Try.ntmps23
      go_wp2_with fail
      refine (pathsetAlive_any _).mono ?_
      rintro e w1 ⟨rfl, hb⟩
      have HW1 := Lib.hid hb
      clear hb
      go_wp2_with fail
      refine (C69.out _).mono ?_
      rintro e w2 ⟨rfl, hb⟩
      have HW2 := Lib.hid (bel_step HW1.out hb)
      clear hb
      go_wp2_with fail
      go_ret
      exact ⟨rfl, HW2.out⟩
  · rw [hl] at c69
    have C69 := Lib.hid c69
    have c74 := fun (W : World) => refPath_any o ho W
    rcases hp : pathOk o with _ | _
    · rw [hp] at c74
      have C74 := Lib.hid c74
      have C76 := Lib.hid (fun W => prefix_no o (by omega) hp W)
      obtain ⟨d, hd⟩ : ∃ d, d = zeroD := ⟨_, rfl⟩
      have c77 := fun (W : World) (An Aa : Option Addr) (cn ca : Nat) => zero19_any d An Aa cn ca W
      have hz : d.zeroB = true := by rw [hd]; exact zeroD_zero
      have hsz : d.N.length ≤ 9223372036854775807 ∧ d.A.length ≤ 9223372036854775807 := by rw [hd]; exact ⟨by decide, by decide⟩
      rw [hz] at c77
      rw [← hd] at C76
      have C77 := Lib.hid c77
      have HSZ := Lib.hid hsz
      clear c69 c74 c77 hz hsz hd hp hl
      rcases hw with hw | ⟨hw, hw2⟩
      · skip
        go_enter Try.func23, Try.ntmps23
        go_wp2_with fail
        refine (pathsetAlive_any _).mono ?_
        rintro e w1 ⟨rfl, hb⟩
        have HW1 := Lib.hid hb
        clear hb
        go_wp2_with fail
        refine (C69.out _).mono ?_
        rintro e w2 ⟨rfl, hb⟩
        have HW2 := Lib.hid (bel_step HW1.out hb)
        clear hb
        go_wp2_with fail
        refine (C76.out _).mono ?_
        rintro e w3 ⟨v, rfl, hd, hb⟩
        obtain ⟨dN, dcN, dA, dcA, rfl, hdi⟩ := hd.din HSZ.out
        have HH := Lib.hid (HasD.new hdi dcN dcA)
        have HW3 := Lib.hid (bel_alloc (bel_step HW2.out hb) (.cells #[.int .i64 d.K, .int .i64 d.S, .slice dN d.N.length dcN, .slice dA d.A.length dcA] 25))
        clear hd hb hdi
        go_wp2_with fail
        refine (C74.out _).mono ?_
        rintro e w4 ⟨rfl, hb⟩
        have HW4 := Lib.hid (bel_step HW3.out hb)
        replace HH := Lib.hid (HH.out.up hb)
        obtain ⟨HHa0_4, HHa1_4, HHa2_4, HHa3_4⟩ := HH.out.cells
        have HHltb4 := HH.out.lt
        clear hb
        go_wp2_with fail
        refine (C77.out _ _ _ _ _).mono ?_
        rintro e w5 ⟨rfl, hb⟩
        have HW5 := Lib.hid (bel_step HW4.out hb)
        clear hb
        go_wp2_with fail
        go_ret
        exact ⟨rfl, HW5.out⟩
      · skip
        go_enter Try.func23, Try.ntmps23
        go_wp2_with fail
        refine (pathsetAlive_any _).mono ?_
        rintro e w1 ⟨rfl, hb⟩
        have HW1 := Lib.hid hb
        clear hb
        go_wp2_with fail
        refine (C69.out _).mono ?_
        rintro e w2 ⟨rfl, hb⟩
        have HW2 := Lib.hid (bel_step HW1.out hb)
        clear hb
        go_wp2_with fail
        refine (C76.out _).mono ?_
        rintro e w3 ⟨v, rfl, hd, hb⟩
        obtain ⟨dN, dcN, dA, dcA, rfl, hdi⟩ := hd.din HSZ.out
        have HH := Lib.hid (HasD.new hdi dcN dcA)
        have HW3 := Lib.hid (bel_alloc (bel_step HW2.out hb) (.cells #[.int .i64 d.K, .int .i64 d.S, .slice dN d.N.length dcN, .slice dA d.A.length dcA] 25))
        clear hd hb hdi
        go_wp2_with fail
        refine (C74.out _).mono ?_
        rintro e w4 ⟨rfl, hb⟩
        have HW4 := Lib.hid (bel_step HW3.out hb)
        replace HH := Lib.hid (HH.out.up hb)
        obtain ⟨HHa0_4, HHa1_4, HHa2_4, HHa3_4⟩ := HH.out.cells
        have HHltb4 := HH.out.lt
        clear hb
        go_wp2_with fail
        refine (C77.out _ _ _ _ _).mono ?_
        rintro e w5 ⟨rfl, hb⟩
        have HW5 := Lib.hid (bel_step HW4.out hb)
        clear hb
        go_wp2_with fail
        go_ret
        exact ⟨rfl, HW5.out⟩
    · rw [hp] at c74
      have C74 := Lib.hid c74
      have hm := fun W => prefix_yes o (by omega) hp W
      have hok := begD_ok (s := o) (by omega)
      have hK := begD_K o
      have hA := begD_len (s := o)
      have ht := begins_long (o := o) (by omega) hl
      have c78 := fun (W : World) => begins19_any s o hs ho W
      rw [← ht] at c78
      obtain ⟨d, hd⟩ : ∃ d, d = begD o := ⟨_, rfl⟩
      rw [← hd] at hok hK hA hm c78
      obtain ⟨b, hb⟩ : ∃ b, b = d.tells (wordL s) := ⟨_, rfl⟩
      have c71 := fun (W : World) (An Aa : Option Addr) (cn ca : Nat) (h : DIn W d An Aa) => tells19_c h cn ca s (by omega)
      have c28 := fun (W : World) (An Aa : Option Addr) (cn ca : Nat) (h : DIn W d An Aa) => refRight_c h cn ca
      rw [D.right_true.2 hok] at c28
      rw [← hb] at c71 c78
      have C76 := Lib.hid hm; have C71 := Lib.hid c71; have C78 := Lib.hid c78; have C28 := Lib.hid c28
      have HSZ := Lib.hid hok.sizes
      have hK2 : (d.K == 92) = true := by rw [hK]; rfl
      have hA2 : (d.A.length : Int) ≤ (o.size : Int) + 4 := by omega
      have v1 : IntKind.i64.wrap ((o.size : Int) + 4) = (o.size : Int) + 4 := by rw [IntKind.wrap_i64]; omega
      clear c69 c74 c71 c78 c28 hm hd hb hok hK hA ht hl hp
      rcases hw with hw | ⟨hw, hw2⟩
      · skip
        go_enter Try.func23, Try.ntmps23
        go_wp2_with fail
        refine (pathsetAlive_any _).mono ?_
        rintro e w1 ⟨rfl, hb⟩
        have HW1 := Lib.hid hb
        clear hb
        go_wp2_with fail
        refine (C69.out _).mono ?_
        rintro e w2 ⟨rfl, hb⟩
        have HW2 := Lib.hid (bel_step HW1.out hb)
        clear hb
        go_wp2_with fail
        refine (C76.out _).mono ?_
        rintro e w3 ⟨v, rfl, hd, hb⟩
        obtain ⟨dN, dcN, dA, dcA, rfl, hdi⟩ := hd.din HSZ.out
        have HH := Lib.hid (HasD.new hdi dcN dcA)
        have HW3 := Lib.hid (bel_alloc (bel_step HW2.out hb) (.cells #[.int .i64 d.K, .int .i64 d.S, .slice dN d.N.length dcN, .slice dA d.A.length dcA] 25))
        clear hd hb hdi
        go_wp2_with fail
        refine (C74.out _).mono ?_
        rintro e w4 ⟨rfl, hb⟩
        have HW4 := Lib.hid (bel_step HW3.out hb)
        replace HH := Lib.hid (HH.out.up hb)
        obtain ⟨HHa0_4, HHa1_4, HHa2_4, HHa3_4⟩ := HH.out.cells
        have HHltb4 := HH.out.lt
        clear hb
        go_wp2_with fail
        refine (C28.out _ _ _ _ _ HH.out.din).mono ?_
        rintro e w5 ⟨rfl, hb⟩
        have HW5 := Lib.hid (bel_step HW4.out hb)
        replace HH := Lib.hid (HH.out.up hb)
        obtain ⟨HHa0_5, HHa1_5, HHa2_5, HHa3_5⟩ := HH.out.cells
        have HHltb5 := HH.out.lt
        clear hb
        go_wp2_with fail
        refine (C71.out _ _ _ _ _ HH.out.din).mono ?_
        rintro e w6 ⟨rfl, hb⟩
        have HW6 := Lib.hid (bel_step HW5.out hb)
        replace HH := Lib.hid (HH.out.up hb)
        obtain ⟨HHa0_6, HHa1_6, HHa2_6, HHa3_6⟩ := HH.out.cells
        have HHltb6 := HH.out.lt
        clear hb
        go_wp2_with fail
        refine (C78.out _).mono ?_
        rintro e w7 ⟨rfl, hb⟩
        have HW7 := Lib.hid (bel_step HW6.out hb)
        clear hb
        go_wp2_with fail
        go_ret
        exact ⟨ret_bool (by simp), HW7.out⟩
      · skip
        go_enter Try.func23, Try.ntmps23
        go_wp2_with fail
        refine (pathsetAlive_any _).mono ?_
        rintro e w1 ⟨rfl, hb⟩
        have HW1 := Lib.hid hb
        clear hb
        go_wp2_with fail
        refine (C69.out _).mono ?_
        rintro e w2 ⟨rfl, hb⟩
        have HW2 := Lib.hid (bel_step HW1.out hb)
        clear hb
        go_wp2_with fail
        refine (C76.out _).mono ?_
        rintro e w3 ⟨v, rfl, hd, hb⟩
        obtain ⟨dN, dcN, dA, dcA, rfl, hdi⟩ := hd.din HSZ.out
        have HH := Lib.hid (HasD.new hdi dcN dcA)
        have HW3 := Lib.hid (bel_alloc (bel_step HW2.out hb) (.cells #[.int .i64 d.K, .int .i64 d.S, .slice dN d.N.length dcN, .slice dA d.A.length dcA] 25))
        clear hd hb hdi
        go_wp2_with fail
        refine (C74.out _).mono ?_
        rintro e w4 ⟨rfl, hb⟩
        have HW4 := Lib.hid (bel_step HW3.out hb)
        replace HH := Lib.hid (HH.out.up hb)
        obtain ⟨HHa0_4, HHa1_4, HHa2_4, HHa3_4⟩ := HH.out.cells
        have HHltb4 := HH.out.lt
        clear hb
        go_wp2_with fail
        refine (C28.out _ _ _ _ _ HH.out.din).mono ?_
        rintro e w5 ⟨rfl, hb⟩
        have HW5 := Lib.hid (bel_step HW4.out hb)
        replace HH := Lib.hid (HH.out.up hb)
        obtain ⟨HHa0_5, HHa1_5, HHa2_5, HHa3_5⟩ := HH.out.cells
        have HHltb5 := HH.out.lt
        clear hb
        go_wp2_with fail
        refine (C71.out _ _ _ _ _ HH.out.din).mono ?_
        rintro e w6 ⟨rfl, hb⟩
        have HW6 := Lib.hid (bel_step HW5.out hb)
        replace HH := Lib.hid (HH.out.up hb)
        obtain ⟨HHa0_6, HHa1_6, HHa2_6, HHa3_6⟩ := HH.out.cells
        have HHltb6 := HH.out.lt
        clear hb
        go_wp2_with fail
        refine (C78.out _).mono ?_
        rintro e w7 ⟨rfl, hb⟩
        have HW7 := Lib.hid (bel_step HW6.out hb)
        clear hb
        go_wp2_with fail
        go_ret
        exact ⟨ret_bool (by simp), HW7.out⟩
set_option maxHeartbeats 4000000 in
set_option maxRecDepth 100000 in
theorem pathsetBack_law (o : ByteArray) (ho : o.size ≤ 9223372036854775807) (w : World) : Calls Try.prog 24 #[.string o] w (Ret (.bool true) w) := by
  by_cases h1 : 300 < o.size
  · have h1i : (300 : Int) < o.size := by omega
    go_enter Try.func24, Try.ntmps24
    go_wp2_with fail
    refine (pathsetAlive_any _).mono ?_
    rintro e w1 ⟨rfl, hb⟩
    have HW1 := Lib.hid hb
    clear hb
    go_wp2_with fail
    go_ret
    exact ⟨rfl, HW1.out⟩
  have h1i : (o.size : Int) ≤ 300 := by omega
  have c74 := fun (W : World) => refPath_any o ho W
  rcases hp : pathOk o with _ | _
  · rw [hp] at c74
    have C74 := Lib.hid c74
    clear c74
    go_enter Try.func24, Try.ntmps24
    go_wp2_with fail
    refine (pathsetAlive_any _).mono ?_
    rintro e w1 ⟨rfl, hb⟩
    have HW1 := Lib.hid hb
    clear hb
    go_wp2_with fail
    refine (C74.out _).mono ?_
    rintro e w2 ⟨rfl, hb⟩
    have HW2 := Lib.hid (bel_step HW1.out hb)
    clear hb
    go_wp2_with fail
    go_ret
    exact ⟨rfl, HW2.out⟩
  · rw [hp] at c74
    have C74 := Lib.hid c74
    have hpb := (longB_iff.1 (pathOk_long hp).1).1
    have C76 := Lib.hid (fun W => prefix_yes o (by omega) hp W)
    have C70 := Lib.hid (fun W => match_any o (by omega) W)
    have hok1 := begD_ok (s := o) (by omega)
    have hA1 := begD_len (s := o)
    have hK1 := begD_K o
    obtain ⟨hok2, hK2, hA2⟩ := matchD_ok (s := o) (by omega)
    have HL1 : Hid (∀ x, PLeast (begD o) x → x = some (symW (bs o))) := fun x h => pleast_begins hp h
    have HL2 : Hid (∀ x, PLeast (matchD o) x → x = some (symW (bs o))) := fun x h => pleast_match hp h
    obtain ⟨d, hd⟩ : ∃ d, d = begD o := ⟨_, rfl⟩
    obtain ⟨m, hm⟩ : ∃ m, m = matchD o := ⟨_, rfl⟩
    rw [← hd] at C76 hok1 hA1 hK1 HL1
    rw [← hm] at C70 hok2 hA2 hK2 HL2
    have hq1 : prodOk d pathsD = true := prodOk_yes hok1 paths_ok (by rw [hK1]; rfl)
    have hq2 : prodOk m pathsD = true := prodOk_yes hok2 paths_ok (by rw [hK2]; rfl)
    have hstr : strOfNums (bytW (symW (bs o))) = o := strOf_self hpb
    have c73a := fun (W : World) (An Aa : Option Addr) (cn ca : Nat) (h : DIn W d An Aa) => (pleast_any d An Aa cn ca W h (.inl (by rw [paths_len]; omega))).mono fun e w' hh => by
      obtain ⟨x, h1, _, h2, h3⟩ := hh.1 hq1
      have hx := HL1.out x h1
      rw [hx] at h2
      have h4 : e = .returned (.tuple #[.string o, .bool true, .int .i64 0]) := by rw [h2]; simp only [Option.getD_some, Option.isSome_some]; rw [hstr]
      exact (⟨h4, h3⟩ : Ret (.tuple #[.string o, .bool true, .int .i64 0]) W e w')
    have c73b := fun (W : World) (An Aa : Option Addr) (cn ca : Nat) (h : DIn W m An Aa) => (pleast_any m An Aa cn ca W h (.inl (by rw [paths_len]; omega))).mono fun e w' hh => by
      obtain ⟨x, h1, _, h2, h3⟩ := hh.1 hq2
      have hx := HL2.out x h1
      rw [hx] at h2
      have h4 : e = .returned (.tuple #[.string o, .bool true, .int .i64 0]) := by rw [h2]; simp only [Option.getD_some, Option.isSome_some]; rw [hstr]
      exact (⟨h4, h3⟩ : Ret (.tuple #[.string o, .bool true, .int .i64 0]) W e w')
    have C73a := Lib.hid c73a; have C73b := Lib.hid c73b
    have HSZ1 := Lib.hid hok1.sizes; have HSZ2 := Lib.hid hok2.sizes
    clear c74 c73a c73b hok1 hok2 hA1 hA2 hK1 hK2 HL1 HL2 hd hm hq1 hq2 hstr hp hpb
    go_enter Try.func24, Try.ntmps24
    go_wp2_with fail
    refine (pathsetAlive_any _).mono ?_
    rintro e w1 ⟨rfl, hb⟩
    have HW1 := Lib.hid hb
    clear hb
    go_wp2_with fail
    refine (C74.out _).mono ?_
    rintro e w2 ⟨rfl, hb⟩
    have HW2 := Lib.hid (bel_step HW1.out hb)
    clear hb
    go_wp2_with fail
    refine (C76.out _).mono ?_
    rintro e w3 ⟨v, rfl, hd, hb⟩
    obtain ⟨dN, dcN, dA, dcA, rfl, hdi⟩ := hd.din HSZ1.out
    have HH := Lib.hid (HasD.new hdi dcN dcA)
    have HW3 := Lib.hid (bel_alloc (bel_step HW2.out hb) (.cells #[.int .i64 d.K, .int .i64 d.S, .slice dN d.N.length dcN, .slice dA d.A.length dcA] 25))
    clear hd hb hdi
    go_wp2_with fail
    refine (C70.out _).mono ?_
    rintro e w4 ⟨v, rfl, hd, hb⟩
    obtain ⟨mN, mcN, mA, mcA, rfl, hdi⟩ := hd.din HSZ2.out
    have HM := Lib.hid (HasD.new hdi mcN mcA)
    have HW4 := Lib.hid (bel_alloc (bel_step HW3.out hb) (.cells #[.int .i64 m.K, .int .i64 m.S, .slice mN m.N.length mcN, .slice mA m.A.length mcA] 25))
    have HHx := Lib.hid (HH.out.up hb)
    obtain ⟨HHx0, HHx1, HHx2, HHx3⟩ := HHx.out.cells
    have HHxl := HHx.out.lt
    replace HH := Lib.hid ((HH.out.up hb).alloc (.cells #[.int .i64 m.K, .int .i64 m.S, .slice mN m.N.length mcN, .slice mA m.A.length mcA] 25))
    clear hd hb hdi
    go_wp2_with fail
    refine (C73a.out _ _ _ _ _ HH.out.din).mono ?_
    rintro e w5 ⟨rfl, hb⟩
    have HW5 := Lib.hid (bel_step HW4.out hb)
    replace HM := Lib.hid (HM.out.up hb)
    obtain ⟨HMa0_5, HMa1_5, HMa2_5, HMa3_5⟩ := HM.out.cells
    have HMltb5 := HM.out.lt
    clear hb
    go_wp2_with fail
    refine (C73b.out _ _ _ _ _ HM.out.din).mono ?_
    rintro e w6 ⟨rfl, hb⟩
    have HW6 := Lib.hid (bel_step HW5.out hb)
    clear hb
    go_wp2_with fail
    go_ret
    exact ⟨ret_bool (by simp), HW6.out⟩
end Go.Proofs.Ytmpcoclgcldclaa
