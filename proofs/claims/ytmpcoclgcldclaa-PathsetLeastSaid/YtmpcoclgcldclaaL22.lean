/- The walk of the law PathsetLeast. -/
import Derived.Test.YtmpcoclgcldclaaL20
namespace Go.Proofs.Ytmpcoclgcldclaa
open Go.RowKit
attribute [local go_sem ↓] Go.wp_at_zero Go.wp_at_succ

theorem smB_sym : ∀ {a b : List Int}, pathsB a = true → pathsB b = true → smB (symW a) (symW b) = smB a b
  | [], _, _, _ => by simp [symW, smB]
  | _ :: _, [], _, _ => by simp [symW, smB]
  | x :: a, y :: b, ha, hb => by
    have hx := pathsB_iff.1 ha x (by simp)
    have hy := pathsB_iff.1 hb y (by simp)
    have ha' : pathsB a = true := pathsB_iff.2 fun c hc => pathsB_iff.1 ha c (by simp [hc])
    have hb' : pathsB b = true := pathsB_iff.2 fun c hc => pathsB_iff.1 hb c (by simp [hc])
    show (if symI x = symI y then smB (symW a) (symW b) else decide (symI x < symI y)) = (if x = y then smB a b else decide (x < y))
    by_cases e : x = y
    · subst e
      rw [if_pos rfl, if_pos rfl, smB_sym ha' hb']
    · rw [if_neg (fun h => e (symI_inj hx hy h)), if_neg e]
      congr 1
      exact propext (symI_lt hx hy)
theorem pleast_some {d : D} {W : List Int} (hs : symsB 92 W = true) (h : PLeast d (some W)) :
    pathOk (strOfNums (bytW W)) = true ∧ wordL (strOfNums (bytW W)) = W ∧ (strOfNums (bytW W)).size ≤ 2048 ∧ ∀ s, pathOk s = true → d.tells (wordL s) = true → aheadB (bs s) (bs (strOfNums (bytW W))) = false := by
  obtain ⟨⟨a1, a2, a3⟩, a4⟩ := h
  have hsz : (strOfNums (bytW W)).size ≤ 2048 := by rw [text_size]; exact a3
  have hpb := (symW_bytW (symsB_iff.1 hs)).2
  have hwl : wordL (strOfNums (bytW W)) = W := by
    rw [wordL_yes (by rw [bs_text hs]; exact hpb), bs_text hs]
    exact (symW_bytW (symsB_iff.1 hs)).1
  refine ⟨?_, hwl, hsz, fun s h1 h2 => ?_⟩
  · unfold pathOk
    rw [long_text hs, decide_eq_true hsz, ← paths_tells hs, a2]; rfl
  · obtain ⟨b1, b2⟩ := pathOk_long h1
    obtain ⟨b3, b4⟩ := longB_iff.1 b1
    rw [wordL_yes b3] at h2
    have hpt : pathsD.tells (symW (bs s)) = true := by rw [paths_tells (symW_syms b3)]; exact decide_eq_true (symW_head b3 b4)
    have h5 := a4 _ h2 hpt
    rw [bs_text hs]
    unfold aheadB
    rw [symW_len] at h5
    by_cases e : (bs s).length = (bytW W).length
    · rw [if_pos e]
      rw [bytW_len] at e
      rcases h5 with h5 | ⟨_, h5 | h5⟩
      · omega
      · have : bs s = bytW W := by rw [← h5, (bytW_symW b3).1]
        rw [this]; exact smB_irr _
      · have h6 : smB (bytW W) (bs s) = true := by
          rw [← smB_sym hpb b3, (symW_bytW (symsB_iff.1 hs)).1]; exact h5
        exact smB_asymm _ _ h6
    · rw [if_neg e]
      rw [bytW_len] at e ⊢
      refine decide_eq_false ?_
      rcases h5 with h5 | ⟨h5, _⟩ <;> omega
theorem pleast_none {d : D} {s : ByteArray} (hs : s.size ≤ 300) (h : PLeast d none) : (pathOk s && d.tells (wordL s)) = false := by
  rcases h1 : pathOk s with _ | _
  · rfl
  · rcases h2 : d.tells (wordL s) with _ | _
    · rfl
    · exfalso
      obtain ⟨b1, b2⟩ := pathOk_long h1
      obtain ⟨b3, b4⟩ := longB_iff.1 b1
      have h3 : wordL s = symW (bs s) := wordL_yes b3
      have hpt : pathsD.tells (wordL s) = true := by rw [h3, paths_tells (symW_syms b3)]; exact decide_eq_true (symW_head b3 b4)
      have h4 := h _ h2 hpt
      rw [h3, symW_len, bs_len] at h4
      omega
theorem noText : strOfNums (bytW []) = ByteArray.empty := rfl
set_option maxHeartbeats 4000000 in
set_option maxRecDepth 100000 in
theorem pathsetLeast_law (d : D) (An Aa : Option Addr) (cn ca : Nat) (s : ByteArray) (hs : s.size ≤ 9223372036854775807) (w : World) (hd : DIn w d An Aa) : Calls Try.prog 22 #[dfaV d.K d.S An d.N.length cn Aa d.A.length ca, .string s] w (Ret (.bool true) w) := by
  have HH := Lib.hid (HasD.new hd cn ca)
  have HW := Lib.hid (bel_new w (.cells #[.int .i64 d.K, .int .i64 d.S, .slice An d.N.length cn, .slice Aa d.A.length ca] 25))
  have HLA := hd.la
  have HLN := hd.ln
  by_cases h1 : 6 < d.A.length
  · have h1i : (6 : Int) < d.A.length := by omega
    go_enter Try.func22, Try.ntmps22
    go_wp2_with fail
    refine (pathsetAlive_any _).mono ?_
    rintro e w1 ⟨rfl, hb⟩
    have HH1 := Lib.hid (HH.out.up hb)
    have HW1 := Lib.hid (bel_step HW.out hb)
    obtain ⟨a0, a1, a2, a3⟩ := HH1.out.cells
    have ltb1 := HH1.out.lt
    clear hb
    go_wp2_with fail
    go_ret
    exact ⟨rfl, HW1.out⟩
  have h1i : (d.A.length : Int) ≤ 6 := by omega
  by_cases h2 : 600 < d.N.length
  · have h2i : (600 : Int) < d.N.length := by omega
    go_enter Try.func22, Try.ntmps22
    go_wp2_with fail
    refine (pathsetAlive_any _).mono ?_
    rintro e w1 ⟨rfl, hb⟩
    have HH1 := Lib.hid (HH.out.up hb)
    have HW1 := Lib.hid (bel_step HW.out hb)
    obtain ⟨a0, a1, a2, a3⟩ := HH1.out.cells
    have ltb1 := HH1.out.lt
    clear hb
    go_wp2_with fail
    go_ret
    exact ⟨rfl, HW1.out⟩
  have h2i : (d.N.length : Int) ≤ 600 := by omega
  by_cases h3 : 300 < s.size
  · have h3i : (300 : Int) < s.size := by omega
    go_enter Try.func22, Try.ntmps22
    go_wp2_with fail
    refine (pathsetAlive_any _).mono ?_
    rintro e w1 ⟨rfl, hb⟩
    have HH1 := Lib.hid (HH.out.up hb)
    have HW1 := Lib.hid (bel_step HW.out hb)
    obtain ⟨a0, a1, a2, a3⟩ := HH1.out.cells
    have ltb1 := HH1.out.lt
    clear hb
    go_wp2_with fail
    go_ret
    exact ⟨rfl, HW1.out⟩
  have h3i : (s.size : Int) ≤ 300 := by omega
  have c73 := fun (W : World) (h : DIn W d An Aa) => pleast_any d An Aa cn ca W h (.inl (by rw [paths_len]; omega))
  have c28 := fun (W : World) (h : DIn W d An Aa) => refRight_c h cn ca
  rcases hp : prodOk d pathsD with _ | _
  · have C73 := Lib.hid (fun W h => (c73 W h).mono fun _ _ hh => hh.2 hp)
    clear c73
    rcases hr : d.right with _ | _
    · rw [hr] at c28
      have C28 := Lib.hid c28
      clear c28
      go_enter Try.func22, Try.ntmps22
      go_wp2_with fail
      refine (pathsetAlive_any _).mono ?_
      rintro e w1 ⟨rfl, hb⟩
      have HH1 := Lib.hid (HH.out.up hb)
      have HW1 := Lib.hid (bel_step HW.out hb)
      obtain ⟨a0, a1, a2, a3⟩ := HH1.out.cells
      have ltb1 := HH1.out.lt
      clear hb
      go_wp2_with fail
      refine (C73.out _ HH1.out.din).mono ?_
      rintro e w2 ⟨rfl, hb⟩
      have HH2 := Lib.hid (HH1.out.up hb)
      have HW2 := Lib.hid (bel_step HW1.out hb)
      obtain ⟨a0_2, a1_2, a2_2, a3_2⟩ := HH2.out.cells
      have ltb2 := HH2.out.lt
      clear hb
      go_wp2_with fail
      refine (C28.out _ HH2.out.din).mono ?_
      rintro e w3 ⟨rfl, hb⟩
      have HH3 := Lib.hid (HH2.out.up hb)
      have HW3 := Lib.hid (bel_step HW2.out hb)
      obtain ⟨a0_3, a1_3, a2_3, a3_3⟩ := HH3.out.cells
      have ltb3 := HH3.out.lt
      clear hb
      go_wp2_with fail
      go_ret
      exact ⟨rfl, HW3.out⟩
    · rw [hr] at c28
      have C28 := Lib.hid c28
      have hK : (d.K != 92) = true := by
        unfold prodOk at hp
        rw [hr, D.right_true.2 paths_ok, paths_K] at hp
        simp only [Bool.true_and] at hp
        exact bne_iff_ne.2 (beq_eq_false_iff_ne.1 hp)
      clear c28
      go_enter Try.func22, Try.ntmps22
      go_wp2_with fail
      refine (pathsetAlive_any _).mono ?_
      rintro e w1 ⟨rfl, hb⟩
      have HH1 := Lib.hid (HH.out.up hb)
      have HW1 := Lib.hid (bel_step HW.out hb)
      obtain ⟨a0, a1, a2, a3⟩ := HH1.out.cells
      have ltb1 := HH1.out.lt
      clear hb
      go_wp2_with fail
      refine (C73.out _ HH1.out.din).mono ?_
      rintro e w2 ⟨rfl, hb⟩
      have HH2 := Lib.hid (HH1.out.up hb)
      have HW2 := Lib.hid (bel_step HW1.out hb)
      obtain ⟨a0_2, a1_2, a2_2, a3_2⟩ := HH2.out.cells
      have ltb2 := HH2.out.lt
      clear hb
      go_wp2_with fail
      refine (C28.out _ HH2.out.din).mono ?_
      rintro e w3 ⟨rfl, hb⟩
      have HH3 := Lib.hid (HH2.out.up hb)
      have HW3 := Lib.hid (bel_step HW2.out hb)
      obtain ⟨a0_3, a1_3, a2_3, a3_3⟩ := HH3.out.cells
      have ltb3 := HH3.out.lt
      clear hb
      go_wp2_with fail
      go_ret
      exact ⟨rfl, HW3.out⟩
  · have C73 := Lib.hid (fun W h => (c73 W h).mono fun _ _ hh => hh.1 hp)
    have hpp := hp
    unfold prodOk at hpp
    simp only [Bool.and_eq_true, beq_iff_eq, paths_K] at hpp
    obtain ⟨hr, _, hK⟩ := hpp
    have hK2 : (d.K != 92) = false := by rw [hK]; rfl
    rw [hr] at c28
    have C28 := Lib.hid c28
    have c74 := fun (W : World) => refPath_any s hs W
    have c71 := fun (W : World) (h : DIn W d An Aa) => tells19_c h cn ca s (by omega)
    obtain ⟨p1, hp1⟩ : ∃ p1, p1 = pathOk s := ⟨_, rfl⟩
    obtain ⟨t1, ht1⟩ : ∃ t1, t1 = d.tells (wordL s) := ⟨_, rfl⟩
    rw [← hp1] at c74
    rw [← ht1] at c71
    have C74 := Lib.hid c74; have C71 := Lib.hid c71
    have HP1 := Lib.hid hp1; have HT1 := Lib.hid ht1
    have hsz : s.size ≤ 300 := by omega
    clear c73 c28 c74 c71 hp hr hK hp1 ht1
    go_enter Try.func22, Try.ntmps22
    go_wp2_with fail
    refine (pathsetAlive_any _).mono ?_
    rintro e w1 ⟨rfl, hb⟩
    have HH1 := Lib.hid (HH.out.up hb)
    have HW1 := Lib.hid (bel_step HW.out hb)
    obtain ⟨a0, a1, a2, a3⟩ := HH1.out.cells
    have ltb1 := HH1.out.lt
    clear hb
    go_wp2_with fail
    refine (C73.out _ HH1.out.din).mono ?_
    rintro e w2 ⟨o, hpo, hsy, rfl, hb⟩
    have HH2 := Lib.hid (HH1.out.up hb)
    have HW2 := Lib.hid (bel_step HW1.out hb)
    obtain ⟨a0_2, a1_2, a2_2, a3_2⟩ := HH2.out.cells
    have ltb2 := HH2.out.lt
    clear hb
    cases o with
    | none =>
      have hno := pleast_none (s := s) hsz hpo
      rw [← HP1.out, ← HT1.out] at hno
      simp only [Option.getD_none, Option.isSome_none]
      rw [noText]
      clear hpo hsy
      go_wp2_with fail
      refine (C28.out _ HH2.out.din).mono ?_
      rintro e w3 ⟨rfl, hb⟩
      have HH3 := Lib.hid (HH2.out.up hb)
      have HW3 := Lib.hid (bel_step HW2.out hb)
      obtain ⟨a0_3, a1_3, a2_3, a3_3⟩ := HH3.out.cells
      have ltb3 := HH3.out.lt
      clear hb
      go_wp2_with fail
      refine (C74.out _).mono ?_
      rintro e w4 ⟨rfl, hb⟩
      have HH4 := Lib.hid (HH3.out.up hb)
      have HW4 := Lib.hid (bel_step HW3.out hb)
      obtain ⟨a0_4, a1_4, a2_4, a3_4⟩ := HH4.out.cells
      have ltb4 := HH4.out.lt
      clear hb
      cases p1 with
      | false =>
        go_wp2_with fail
        go_ret
        exact ⟨rfl, HW4.out⟩
      | true =>
        obtain rfl : t1 = false := by simpa using hno
        clear hno
        go_wp2_with fail
        refine (C71.out _ HH4.out.din).mono ?_
        rintro e w5 ⟨rfl, hb⟩
        have HH5 := Lib.hid (HH4.out.up hb)
        have HW5 := Lib.hid (bel_step HW4.out hb)
        obtain ⟨a0_5, a1_5, a2_5, a3_5⟩ := HH5.out.cells
        have ltb5 := HH5.out.lt
        clear hb
        go_wp2_with fail
        go_ret
        exact ⟨rfl, HW5.out⟩
    | some W =>
      obtain ⟨g1, g2, g3, g4⟩ := pleast_some (hsy W rfl) hpo
      simp only [Option.getD_some, Option.isSome_some]
      obtain ⟨T, hT⟩ : ∃ T, T = strOfNums (bytW W) := ⟨_, rfl⟩
      rw [← hT] at g1 g2 g3 g4 ⊢
      have c74t := fun (X : World) => refPath_any T (by omega) X
      rw [g1] at c74t
      have c71t := fun (X : World) (h : DIn X d An Aa) => tells19_c h cn ca T (by omega)
      rw [g2, hpo.1.1] at c71t
      have c75 := fun (h1 : pathOk s = true) (h2 : d.tells (wordL s) = true) (X : World) => by
        have h := ahead_any s T (by omega) (by omega) X
        rw [g4 s h1 h2] at h
        exact h
      rw [← HP1.out, ← HT1.out] at c75
      have C74t := Lib.hid c74t; have C71t := Lib.hid c71t; have C75 := Lib.hid c75
      clear hpo hsy g1 g2 g3 g4 hT c74t c71t c75
      go_wp2_with fail
      refine (C28.out _ HH2.out.din).mono ?_
      rintro e w3 ⟨rfl, hb⟩
      have HH3 := Lib.hid (HH2.out.up hb)
      have HW3 := Lib.hid (bel_step HW2.out hb)
      obtain ⟨a0_3, a1_3, a2_3, a3_3⟩ := HH3.out.cells
      have ltb3 := HH3.out.lt
      clear hb
      go_wp2_with fail
      refine (C74.out _).mono ?_
      rintro e w4 ⟨rfl, hb⟩
      have HH4 := Lib.hid (HH3.out.up hb)
      have HW4 := Lib.hid (bel_step HW3.out hb)
      obtain ⟨a0_4, a1_4, a2_4, a3_4⟩ := HH4.out.cells
      have ltb4 := HH4.out.lt
      clear hb
      cases p1 with
      | false =>
        go_wp2_with fail
        refine (C74t.out _).mono ?_
        rintro e w5 ⟨rfl, hb⟩
        have HH5 := Lib.hid (HH4.out.up hb)
        have HW5 := Lib.hid (bel_step HW4.out hb)
        obtain ⟨a0_5, a1_5, a2_5, a3_5⟩ := HH5.out.cells
        have ltb5 := HH5.out.lt
        clear hb
        go_wp2_with fail
        refine (C71t.out _ HH5.out.din).mono ?_
        rintro e w6 ⟨rfl, hb⟩
        have HH6 := Lib.hid (HH5.out.up hb)
        have HW6 := Lib.hid (bel_step HW5.out hb)
        obtain ⟨a0_6, a1_6, a2_6, a3_6⟩ := HH6.out.cells
        have ltb6 := HH6.out.lt
        clear hb
        go_wp2_with fail
        go_ret
        exact ⟨rfl, HW6.out⟩
      | true =>
        go_wp2_with fail
        refine (C71.out _ HH4.out.din).mono ?_
        rintro e w5 ⟨rfl, hb⟩
        have HH5 := Lib.hid (HH4.out.up hb)
        have HW5 := Lib.hid (bel_step HW4.out hb)
        obtain ⟨a0_5, a1_5, a2_5, a3_5⟩ := HH5.out.cells
        have ltb5 := HH5.out.lt
        clear hb
        cases t1 with
        | false =>
          go_wp2_with fail
          refine (C74t.out _).mono ?_
          rintro e w6 ⟨rfl, hb⟩
          have HH6 := Lib.hid (HH5.out.up hb)
          have HW6 := Lib.hid (bel_step HW5.out hb)
          obtain ⟨a0_6, a1_6, a2_6, a3_6⟩ := HH6.out.cells
          have ltb6 := HH6.out.lt
          clear hb
          go_wp2_with fail
          refine (C71t.out _ HH6.out.din).mono ?_
          rintro e w7 ⟨rfl, hb⟩
          have HH7 := Lib.hid (HH6.out.up hb)
          have HW7 := Lib.hid (bel_step HW6.out hb)
          obtain ⟨a0_7, a1_7, a2_7, a3_7⟩ := HH7.out.cells
          have ltb7 := HH7.out.lt
          clear hb
          go_wp2_with fail
          go_ret
          exact ⟨rfl, HW7.out⟩
        | true =>
          go_wp2_with fail
          refine (C74t.out _).mono ?_
          rintro e w6 ⟨rfl, hb⟩
          have HH6 := Lib.hid (HH5.out.up hb)
          have HW6 := Lib.hid (bel_step HW5.out hb)
          obtain ⟨a0_6, a1_6, a2_6, a3_6⟩ := HH6.out.cells
          have ltb6 := HH6.out.lt
          clear hb
          go_wp2_with fail
          refine (C71t.out _ HH6.out.din).mono ?_
          rintro e w7 ⟨rfl, hb⟩
          have HH7 := Lib.hid (HH6.out.up hb)
          have HW7 := Lib.hid (bel_step HW6.out hb)
          obtain ⟨a0_7, a1_7, a2_7, a3_7⟩ := HH7.out.cells
          have ltb7 := HH7.out.lt
          clear hb
          go_wp2_with fail
          refine (C75.out (by simp) (by simp) _).mono ?_
          rintro e w8 ⟨rfl, hb⟩
          have HH8 := Lib.hid (HH7.out.up hb)
          have HW8 := Lib.hid (bel_step HW7.out hb)
          obtain ⟨a0_8, a1_8, a2_8, a3_8⟩ := HH8.out.cells
          have ltb8 := HH8.out.lt
          clear hb
          go_wp2_with fail
          go_ret
          exact ⟨rfl, HW8.out⟩
end Go.Proofs.Ytmpcoclgcldclaa
