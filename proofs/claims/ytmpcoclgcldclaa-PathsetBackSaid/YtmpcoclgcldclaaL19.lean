/- The walk of the law PathsetPaths. -/
import Derived.Test.YtmpcoclgcldclaaQJ
namespace Go.Proofs.Ytmpcoclgcldclaa
open Go.RowKit
attribute [local go_sem ↓] Go.wp_at_zero Go.wp_at_succ

theorem bs_text {u : List Int} (hu : symsB 92 u = true) : bs (strOfNums (bytW u)) = bytW u := bs_ofNums fun c hc => by
  obtain ⟨x, hx, rfl⟩ := List.mem_map.1 hc
  have h := symsB_iff.1 hu x hx
  have := bytI_rng h.1 h.2
  omega
theorem long_text {u : List Int} (hu : symsB 92 u = true) : longB (strOfNums (bytW u)) = decide (u[0]? = some 13) := by
  unfold longB
  rw [bs_text hu, (symW_bytW (symsB_iff.1 hu)).2, Bool.true_and]
  congr 1
  exact propext (head_13 hu).symm
theorem text_size (u : List Int) : (strOfNums (bytW u)).size = u.length := by rw [strOfNums_size, bytW_len]
theorem D.tells_no {d : D} {u : List Int} (h : symsB d.K u = false) : d.tells u = false := by
  unfold D.tells; rw [h]; simp
set_option maxHeartbeats 2000000 in
set_option maxRecDepth 100000 in
theorem pathsetPaths_law (ws : List Int) (A : Option Addr) (c : Nat) (w : World) (hw : WIn w ws A) : Calls Try.prog 19 #[.slice A ws.length c] w (Ret (.bool true) w) := by
  have HLw := hw.l
  by_cases h1 : 300 < ws.length
  · go_enter Try.func19, Try.ntmps19
    go_wp2_with fail
    refine (pathsetAlive_any w).mono ?_
    rintro e w1 ⟨rfl, hb1⟩
    go_wp2_with fail
    go_ret
    exact ⟨rfl, hb1⟩
  have HP67 := Lib.hid (fun W => paths_any W)
  have HPO : Hid pathsD.Ok := paths_ok
  have hPK := paths_K
  have hPL := paths_len
  have hPT : symsB 92 ws = true → pathsD.tells ws = decide (ws[0]? = some 13) := fun hu => paths_tells hu
  have hPN : symsB 92 ws = false → pathsD.tells ws = false := fun hu => D.tells_no hu
  obtain ⟨P, hP⟩ : ∃ P, P = pathsD := ⟨_, rfl⟩
  rw [← hP] at HP67 HPO hPK hPL hPT hPN
  have c68 := fun (W : World) (hb : Below w.heap.size w W) => refFrom_any ws A c (by omega) W (hw.up hb)
  have c30 := fun (W : World) (An Aa : Option Addr) (cn ca : Nat) (hb : Below w.heap.size w W) (h : DIn W P An Aa) => refTells_c h (hw.up hb) cn ca c
  have c28 := fun (W : World) (An Aa : Option Addr) (cn ca : Nat) (h : DIn W P An Aa) => refRight_c h cn ca
  rw [D.right_true.2 HPO.out] at c28
  have HSZ := Lib.hid HPO.out.sizes
  have C30 := Lib.hid c30; have C28 := Lib.hid c28
  have hPK2 : (P.K == 92) = true := by rw [hPK]; rfl
  have hPL2 : (P.A.length : Int) ≤ 3 := by omega
  clear hw c30 c28 hP hPK hPL
  rcases hs : symsB 92 ws with _ | _
  · have C68 := Lib.hid (fun (W : World) (hb : Below w.heap.size w W) => by have h := c68 W hb; rw [textV_no hs] at h; exact h)
    have ht := hPN hs
    rw [ht] at C30
    clear c68 hPN hPT hs ht
    go_enter Try.func19, Try.ntmps19
    go_wp2_with fail
    refine (pathsetAlive_any w).mono ?_
    rintro e w1 ⟨rfl, hb1⟩
    have HB1 := Lib.hid hb1
    clear hb1
    go_wp2_with fail
    refine (HP67.out _).mono ?_
    rintro e w2 ⟨v, rfl, hd, hb⟩
    obtain ⟨AN, cN, AA, cA, rfl, hdi⟩ := hd.din HSZ.out
    have HH := Lib.hid (HasD.new hdi cN cA)
    have HW := Lib.hid (bel_alloc (bel_step HB1.out hb) (.cells #[.int .i64 P.K, .int .i64 P.S, .slice AN P.N.length cN, .slice AA P.A.length cA] 25))
    clear hd hb hdi
    go_wp2_with fail
    refine (C68.out _ HW.out).mono ?_
    rintro e w3 ⟨rfl, hb⟩
    have HH3 := Lib.hid (HH.out.up hb)
    have HW3 := Lib.hid (bel_step HW.out hb)
    obtain ⟨a0, a1, a2, a3⟩ := HH3.out.cells
    have ltb := HH3.out.lt
    clear hb
    go_wp2_with fail
    refine (C28.out _ _ _ _ _ HH3.out.din).mono ?_
    rintro e w4 ⟨rfl, hb⟩
    have HH4 := Lib.hid (HH3.out.up hb)
    have HW4 := Lib.hid (bel_step HW3.out hb)
    obtain ⟨b0, b1, b2, b3⟩ := HH4.out.cells
    have ltb4 := HH4.out.lt
    clear hb
    go_wp2_with fail
    refine (C30.out _ _ _ _ _ HW4.out HH4.out.din).mono ?_
    rintro e w5 ⟨rfl, hb⟩
    have HW5 := Lib.hid (bel_step HW4.out hb)
    clear hb
    go_wp2_with fail
    go_ret
    exact ⟨rfl, HW5.out⟩
  · have C68 := Lib.hid (fun (W : World) (hb : Below w.heap.size w W) => by have h := c68 W hb; rw [textV_yes hs] at h; exact h)
    have ht := hPT hs
    rw [ht] at C30
    obtain ⟨T, hT⟩ : ∃ T, T = strOfNums (bytW ws) := ⟨_, rfl⟩
    have c69 := fun (W : World) => long_any T (by rw [hT, text_size]; omega) W
    have hlt := long_text hs
    rw [← hT] at hlt C68
    rw [hlt] at c69
    obtain ⟨b, hb⟩ : ∃ b, b = decide (ws[0]? = some 13) := ⟨_, rfl⟩
    rw [← hb] at c69 C30
    have C69 := Lib.hid c69
    clear c68 c69 hPN hPT hs ht hT hlt hb
    go_enter Try.func19, Try.ntmps19
    go_wp2_with fail
    refine (pathsetAlive_any w).mono ?_
    rintro e w1 ⟨rfl, hb1⟩
    have HB1 := Lib.hid hb1
    clear hb1
    go_wp2_with fail
    refine (HP67.out _).mono ?_
    rintro e w2 ⟨v, rfl, hd, hb⟩
    obtain ⟨AN, cN, AA, cA, rfl, hdi⟩ := hd.din HSZ.out
    have HH := Lib.hid (HasD.new hdi cN cA)
    have HW := Lib.hid (bel_alloc (bel_step HB1.out hb) (.cells #[.int .i64 P.K, .int .i64 P.S, .slice AN P.N.length cN, .slice AA P.A.length cA] 25))
    clear hd hb hdi
    go_wp2_with fail
    refine (C68.out _ HW.out).mono ?_
    rintro e w3 ⟨rfl, hb⟩
    have HH3 := Lib.hid (HH.out.up hb)
    have HW3 := Lib.hid (bel_step HW.out hb)
    obtain ⟨a0, a1, a2, a3⟩ := HH3.out.cells
    have ltb := HH3.out.lt
    clear hb
    go_wp2_with fail
    refine (C28.out _ _ _ _ _ HH3.out.din).mono ?_
    rintro e w4 ⟨rfl, hb⟩
    have HH4 := Lib.hid (HH3.out.up hb)
    have HW4 := Lib.hid (bel_step HW3.out hb)
    obtain ⟨b0, b1, b2, b3⟩ := HH4.out.cells
    have ltb4 := HH4.out.lt
    clear hb
    go_wp2_with fail
    refine (C30.out _ _ _ _ _ HW4.out HH4.out.din).mono ?_
    rintro e w5 ⟨rfl, hb⟩
    have HW5 := Lib.hid (bel_step HW4.out hb)
    clear hb
    go_wp2_with fail
    refine (C69.out _).mono ?_
    rintro e w6 ⟨rfl, hb⟩
    have HW6 := Lib.hid (bel_step HW5.out hb)
    clear hb
    go_wp2_with fail
    go_ret
    exact ⟨ret_bool (by simp), HW6.out⟩
end Go.Proofs.Ytmpcoclgcldclaa
