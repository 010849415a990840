/- The walk of layer 19's pathsetAlive; the shortest path of those that begin with one, or belong to one, is that. -/
import Derived.Test.YtmpcoclgcldclaaQK
import Derived.Test.YtmpcoclgcldclaaQI
namespace Go.Proofs.Ytmpcoclgcldclaa
open Go.RowKit
attribute [local go_sem ↓] Go.wp_at_zero Go.wp_at_succ

theorem paths_tells {u : List Int} (hu : symsB 92 u = true) : pathsD.tells u = decide (u[0]? = some 13) := by
  rw [pathsD_is, chainD_tells (k := 92) (by omega) (by omega) (by simp) (by decide)]
  have : ((92 : Nat) : Int) = 92 := rfl
  rw [this, hu]
  unfold beginsB
  cases u with
  | nil => rfl
  | cons x u =>
    by_cases hx : x = 13
    · subst hx; simp
    · simp [hx]
theorem longB_iff {s : ByteArray} : longB s = true ↔ pathsB (bs s) = true ∧ (bs s)[0]? = some 47 := by
  unfold longB
  rw [Bool.and_eq_true, decide_eq_true_eq]
theorem symW_head {p : List Int} (hp : pathsB p = true) (h : p[0]? = some 47) : (symW p)[0]? = some 13 := by
  rw [head_13 (symW_syms hp), (bytW_symW hp).1]; exact h
theorem pleast_self {d : D} {p : List Int} {o : Option (List Int)} (hK : d.K = 92) (hp : pathsB p = true) (h47 : p[0]? = some 47) (hl : p.length ≤ 2048) (h1 : d.tells (symW p) = true)
    (h2 : ∀ u, symsB 92 u = true → d.tells u = true → bytW u = p ∨ p.length < u.length) (h : PLeast d o) : o = some (symW p) := by
  have hsy := symW_syms hp
  have hpt : pathsD.tells (symW p) = true := by rw [paths_tells hsy]; exact decide_eq_true (symW_head hp h47)
  unfold PLeast at h
  cases o with
  | none =>
    have := h _ h1 hpt
    rw [symW_len] at this
    omega
  | some W =>
    obtain ⟨⟨a1, a2, a3⟩, a4⟩ := h
    have hw : symsB 92 W = true := by have := D.tells_syms a1; rw [hK] at this; exact this
    have a5 := a4 _ h1 hpt
    rw [symW_len] at a5
    rcases h2 W hw a1 with h3 | h3
    · rw [← h3, (symW_bytW (symsB_iff.1 hw)).1]
    · omega
theorem pathOf_len {p o : List Int} (h : pathOf p o = true) : p = o ∨ o.length < p.length := by
  unfold pathOf at h
  simp only [Bool.or_eq_true, Bool.and_eq_true, decide_eq_true_eq] at h
  rcases h with h | h
  · exact .inl h
  · exact .inr h.1
theorem pathOf_self (p : List Int) : pathOf p p = true := by unfold pathOf; simp
theorem wordL_yes {s : ByteArray} (h : pathsB (bs s) = true) : wordL s = symW (bs s) := by unfold wordL; rw [h]; rfl
theorem pleast_match {s : ByteArray} {o : Option (List Int)} (hs : pathOk s = true) (h : PLeast (matchD s) o) : o = some (symW (bs s)) := by
  obtain ⟨h1, h2⟩ := pathOk_long hs
  obtain ⟨h3, h4⟩ := longB_iff.1 h1
  have hsz : s.size ≤ 59999 := by omega
  refine pleast_self (matchD_ok hsz).2.1 h3 h4 (by rw [bs_len]; exact h2) ?_ (fun u hu hm => ?_) h
  · rw [matchD_tells hsz (symW_syms h3), decide_eq_true (symW_head h3 h4), (bytW_symW h3).1, pathOf_self]; rfl
  · rw [matchD_tells hsz hu] at hm
    simp only [Bool.and_eq_true] at hm
    have := pathOf_len hm.2
    rw [bytW_len] at this
    exact this
theorem pleast_begins {s : ByteArray} {o : Option (List Int)} (hs : pathOk s = true) (h : PLeast (begD s) o) : o = some (symW (bs s)) := by
  obtain ⟨h1, h2⟩ := pathOk_long hs
  obtain ⟨h3, h4⟩ := longB_iff.1 h1
  have hsz : s.size ≤ 60000 := by omega
  refine pleast_self (begD_K s) h3 h4 (by rw [bs_len]; exact h2) ?_ (fun u hu hm => ?_) h
  · rw [begD_tells hsz (symW_syms h3), (bytW_symW h3).1]; simp
  · rw [begD_tells hsz hu] at hm
    have hm := of_decide_eq_true hm
    have hl := congrArg List.length hm
    rw [List.length_take, bytW_len] at hl
    by_cases e : u.length ≤ (bs s).length
    · rw [List.take_of_length_le (by rw [bytW_len]; exact e)] at hm
      exact .inl hm
    · exact .inr (by omega)
theorem strOf_self {s : ByteArray} (h : pathsB (bs s) = true) : strOfNums (bytW (symW (bs s))) = s := by
  rw [(bytW_symW h).1]
  refine bs_inj (bs_ofNums fun c hc => bs_rng hc)
def aS : ByteArray := ByteArray.mk #[47, 97]
set_option maxHeartbeats 4000000 in
set_option maxRecDepth 100000 in
theorem pathsetAlive_any (w : World) : Calls Try.prog 66 #[] w (Ret (.bool true) w) := by
  have hm := fun W => match_any aS (by decide) W
  have hok := matchD_ok (s := aS) (by decide)
  have hpl := fun o h => pleast_match (s := aS) (o := o) (by decide +kernel) h
  have htl := fun u hu => matchD_tells (s := aS) (u := u) (by decide) hu
  have t1 : (matchD aS).tells (wordL (ByteArray.mk #[47, 97, 47, 98])) = true := by rw [htl _ (wordL_syms _)]; decide +kernel
  have t2 : (matchD aS).tells (wordL (ByteArray.mk #[47, 97, 98])) = false := by rw [htl _ (wordL_syms _)]; decide +kernel
  have t3 : (matchD aS).tells (wordL (ByteArray.mk #[47])) = false := by rw [htl _ (wordL_syms _)]; decide +kernel
  obtain ⟨d, hd⟩ : ∃ d, d = matchD aS := ⟨_, rfl⟩
  rw [← hd] at hm hok hpl t1 t2 t3
  obtain ⟨ho, hK, hA⟩ := hok
  have hA2 : d.A.length ≤ 5 := hA
  have hpo : prodOk d pathsD = true := prodOk_yes ho paths_ok (by rw [hK]; rfl)
  have hstr : strOfNums (bytW (symW (bs aS))) = aS := strOf_self (by decide +kernel)
  have HM := Lib.hid hm; have HOK := Lib.hid ho; have HPL := Lib.hid hpl; have T1 := Lib.hid t1; have T2 := Lib.hid t2; have T3 := Lib.hid t3; have HPO := Lib.hid hpo; have HA2 := Lib.hid hA2; have HSTR := Lib.hid hstr
  have HSZ := Lib.hid ho.sizes
  clear hm ho hpl t1 t2 t3 hpo hA hA2 hK htl hd hstr
  unfold aS at HM
  go_enter Try.func66, Try.ntmps66
  go_wp2_with fail
  refine (HM.out _).mono ?_
  rintro e w1 ⟨v, rfl, hd, hb⟩
  obtain ⟨AN, cN, AA, cA, rfl, hdi⟩ := hd.din HSZ.out
  have HH := Lib.hid (HasD.new hdi cN cA)
  have HW := Lib.hid (bel_alloc hb (.cells #[.int .i64 d.K, .int .i64 d.S, .slice AN d.N.length cN, .slice AA d.A.length cA] 25))
  clear hd hb hdi
  go_wp2_with fail
  refine (pleast_any d AN AA cN cA _ HH.out.din (.inl (by rw [paths_len]; have := HA2.out; omega))).mono ?_
  rintro e w2 ⟨hy, _⟩
  obtain ⟨o, hpo, _, rfl, hb⟩ := hy HPO.out
  obtain rfl := HPL.out o hpo
  simp only [Option.getD_some, Option.isSome_some]
  rw [HSTR.out]
  have HH2 := Lib.hid (HH.out.up hb)
  have HW2 := Lib.hid (bel_step HW.out hb)
  obtain ⟨a0, a1, a2, a3⟩ := HH2.out.cells
  have ltb := HH2.out.lt
  have c1 := fun (W : World) (h : DIn W d AN AA) => tells19_c h cN cA (ByteArray.mk #[47, 97, 47, 98]) (by decide)
  rw [T1.out] at c1
  have c2 := fun (W : World) (h : DIn W d AN AA) => tells19_c h cN cA (ByteArray.mk #[47, 97, 98]) (by decide)
  rw [T2.out] at c2
  have c3 := fun (W : World) (h : DIn W d AN AA) => tells19_c h cN cA (ByteArray.mk #[47]) (by decide)
  rw [T3.out] at c3
  have C1 := Lib.hid c1; have C2 := Lib.hid c2; have C3 := Lib.hid c3
  clear c1 c2 c3 hy hpo hb
  unfold aS
  go_wp2_with fail
  refine (C1.out _ HH2.out.din).mono ?_
  rintro e w3 ⟨rfl, hb⟩
  have HH3 := Lib.hid (HH2.out.up hb)
  have HW3 := Lib.hid (bel_step HW2.out hb)
  obtain ⟨b0, b1, b2, b3⟩ := HH3.out.cells
  have ltb3 := HH3.out.lt
  clear hb
  go_wp2_with fail
  refine (C2.out _ HH3.out.din).mono ?_
  rintro e w4 ⟨rfl, hb⟩
  have HH4 := Lib.hid (HH3.out.up hb)
  have HW4 := Lib.hid (bel_step HW3.out hb)
  obtain ⟨d0, d1, d2, d3⟩ := HH4.out.cells
  have ltb4 := HH4.out.lt
  clear hb
  go_wp2_with fail
  refine (C3.out _ HH4.out.din).mono ?_
  rintro e w5 ⟨rfl, hb⟩
  have HW5 := Lib.hid (bel_step HW4.out hb)
  clear hb
  go_wp2_with fail
  go_ret
  exact ⟨rfl, HW5.out⟩
end Go.Proofs.Ytmpcoclgcldclaa
