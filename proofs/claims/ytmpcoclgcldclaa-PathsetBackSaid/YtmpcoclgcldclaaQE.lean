/- The walks of pathset.begins, Paths, url.Path, the document's Path (layer 4), pathset.Match. -/
import Derived.Test.YtmpcoclgcldclaaQB
import Derived.Test.YtmpcoclgcldclaaJ
import Derived.Test.YtmpcoclgcldclaaW1
namespace Go.Proofs.Ytmpcoclgcldclaa
open Go.RowKit
attribute [local go_sem ↓] Go.wp_at_zero Go.wp_at_succ

/-- the automaton that tells nothing -/
def nilD (k : Nat) : D := { K := k, S := 0, N := List.replicate k 0, A := [false] }
/-- what begins with a text -/
def begD (s : ByteArray) : D := if pathsB (bs s) then chainD 92 (symW (bs s)) true else nilD 92
def pathsD : D := chainD 92 [13] true
theorem DfaR.lower {w : World} {base base' : Nat} {v : Value} {d : D} (h : DfaR w base v d) (hb : base' ≤ base) : DfaR w base' v d :=
  h.touch (T := fun _ => False) (Touch.refl _ w) hb fun _ _ _ h => h
theorem gives_mid {w w1 w2 : World} {o : Obj} {v : Value} {d : D} (hb1 : Below (w.alloc o).heap.size (w.alloc o) w1) (hd : DfaR w2 w1.heap.size v d) (hb : Below w1.heap.size w1 w2) (u0 u1 u2 u3 : Value) :
    DfaR ((((w2.setCell ⟨w.heap.size, 0, none⟩ u0).setCell ⟨w.heap.size, 1, none⟩ u1).setCell ⟨w.heap.size, 2, none⟩ u2).setCell ⟨w.heap.size, 3, none⟩ u3) w.heap.size v d ∧
    Below w.heap.size w ((((w2.setCell ⟨w.heap.size, 0, none⟩ u0).setCell ⟨w.heap.size, 1, none⟩ u1).setCell ⟨w.heap.size, 2, none⟩ u2).setCell ⟨w.heap.size, 3, none⟩ u3) :=
  gives_end (hd.lower hb1.size) (bel_step hb1 hb) u0 u1 u2 u3
set_option maxHeartbeats 1000000 in
set_option maxRecDepth 100000 in
theorem pbegins_any (s : ByteArray) (hs : s.size ≤ 60000) (w : World) : Calls Try.prog 103 #[.string s] w (Gives w (begD s) 0) := by
  obtain ⟨b, hb⟩ : ∃ b, b = pathsB (bs s) := ⟨_, rfl⟩
  have HBB := Lib.hid hb
  clear hb
  go_enter Try.func103, Try.ntmps103
  go_wp2_with fail
  refine (symW_any s (by omega) _).mono ?_
  rintro e w1 ⟨A, c, rfl, hr, hb⟩
  have HR := Lib.hid hr; have HB := Lib.hid hb
  rw [← HBB.out]
  have hwl := wordL_len s
  clear hr hb
  cases b with
  | false =>
    go_wp2_with fail
    refine (none_any 92 w1).mono ?_
    rintro e w2 ⟨v, rfl, hd, hb⟩
    obtain ⟨AN, cN, AA, cA, rfl⟩ := hd.form
    have hb1 := blk_below (Blk.new w 25 #[.int .i64 0, .int .i64 0, .slice none 0 0, .slice none 0 0]) (bel_step HB.out hb)
    obtain ⟨⟨p0, p1, p2, p3⟩, z0, z1, z2, z3⟩ := blk4 hb1
    have HD := Lib.hid hd; have HB2 := Lib.hid hb
    clear hd hb hb1
    have e2 : noneE 92 = 0 := rfl
    have HBD : Hid (begD s = noneD 92) := by show _ = _; unfold begD; rw [← HBB.out]; rfl
    go_wp2_with fail
    refine bodyPost_ret (v := .tuple #[dfaV (noneD 92).K (noneD 92).S AN (noneD 92).N.length cN AA (noneD 92).A.length cA, .int .i64 0]) ?_ rfl ?_
    · simp [results, Try.results103, go_sem, p0, p1, p2, p3]
    · rw [HBD.out]
      exact ⟨_, rfl, gives_mid HB.out HD.out HB2.out _ _ _ _⟩
  | true =>
    have HW : Hid (wordL s = symW (bs s)) := by show _ = _; unfold wordL; rw [← HBB.out]; rfl
    have HOK : Hid (chOk 92 (wordL s) = true) := by show _ = _; unfold chOk; rw [wordL_syms]; rfl
    have HBD : Hid (begD s = chD 92 (wordL s) true) := by show _ = _; unfold begD chD; rw [← HBB.out, HOK.out, HW.out]; rfl
    have HE : Hid (chE 92 (wordL s) = 0) := by show _ = _; unfold chE; rw [HOK.out]; rfl
    go_wp2_with fail
    refine (begins_any 92 (wordL s) A c w1 (by omega) HR.out).mono ?_
    rintro e w2 ⟨v, rfl, hd, hb⟩
    rw [HE.out, ← HBD.out] at *
    obtain ⟨AN, cN, AA, cA, rfl⟩ := hd.form
    have hb1 := blk_below (Blk.new w 25 #[.int .i64 0, .int .i64 0, .slice none 0 0, .slice none 0 0]) (bel_step HB.out hb)
    obtain ⟨⟨p0, p1, p2, p3⟩, z0, z1, z2, z3⟩ := blk4 hb1
    have HD := Lib.hid hd; have HB2 := Lib.hid hb
    clear hd hb hb1
    go_wp2_with fail
    refine bodyPost_ret (v := .tuple #[dfaV (begD s).K (begD s).S AN (begD s).N.length cN AA (begD s).A.length cA, .int .i64 0]) ?_ rfl ?_
    · simp [results, Try.results103, go_sem, p0, p1, p2, p3]
    · exact ⟨_, rfl, gives_mid HB.out HD.out HB2.out _ _ _ _⟩
/-- a call that gives an automaton alone -/
def GivesD (w : World) (d : D) (e : Ending) (w' : World) : Prop := ∃ v, e = .returned v ∧ DfaR w' w.heap.size v d ∧ Below w.heap.size w w'
theorem begD_slash : begD (ByteArray.mk #[47]) = pathsD := by
  have e : bs (ByteArray.mk #[47]) = [47] := rfl
  unfold begD pathsD
  rw [e]
  rfl
set_option maxHeartbeats 1000000 in
set_option maxRecDepth 100000 in
theorem paths_any (w : World) : Calls Try.prog 67 #[] w (GivesD w pathsD) := by
  have hbeg := fun W => pbegins_any (ByteArray.mk #[47]) (by decide) W
  rw [begD_slash] at hbeg
  have HBG := Lib.hid hbeg
  obtain ⟨d, hd⟩ : ∃ d, d = pathsD := ⟨_, rfl⟩
  rw [← hd] at HBG ⊢
  clear hbeg hd
  go_enter Try.func67, Try.ntmps67
  go_wp2_with fail
  refine (HBG.out _).mono ?_
  rintro e w1 ⟨v, rfl, hd, hb⟩
  obtain ⟨AN, cN, AA, cA, rfl⟩ := hd.form
  have hb1 := blk_below (Blk.new w 25 #[.int .i64 0, .int .i64 0, .slice none 0 0, .slice none 0 0]) hb
  have hb2 := hb1.alloc (.cells #[.int .i64 d.K, .int .i64 d.S, .slice AN d.N.length cN, .slice AA d.A.length cA] 25)
  obtain ⟨⟨p0, p1, p2, p3⟩, z0, z1, z2, z3⟩ := blk4 hb2
  have hsz := hb2.lt
  have HD := Lib.hid hd; have HB2 := Lib.hid hb
  clear hd hb hb1 hb2
  go_wp2_with fail
  refine bodyPost_ret (v := dfaV d.K d.S AN d.N.length cN AA d.A.length cA) ?_ rfl ?_
  · simp [results, Try.results67, go_sem, p0, p1, p2, p3]
  · exact ⟨_, rfl, gives_end (HD.out.touch ((Touch.refl (fun _ => False) w1).alloc _) (Nat.le_refl _) (fun _ _ _ h => h)) (HB2.out.alloc (by exact HB2.out.size) _) _ _ _ _⟩

theorem toList_some {s : ByteArray} (h : 0 < s.size) : s.toList.isEmpty = false ∧ ¬ s.toList = [] := by
  have hne : ¬ s.toList = [] := by
    rw [ByteArray.toList_eq]
    intro e
    have h3 := congrArg List.length e
    rw [Array.length_toList] at h3
    have h2 : 0 < s.data.size := h
    rw [h3] at h2
    exact absurd h2 (by simp)
  refine ⟨?_, hne⟩
  rcases hl : s.toList with _ | ⟨a, l⟩
  · exact absurd hl hne
  · rfl
theorem toList_none {s : ByteArray} (h : ¬ 0 < s.size) : s.toList.isEmpty = true ∧ s.toList = [] := by
  have hne : s.toList = [] := by
    rw [ByteArray.toList_eq]
    refine List.eq_nil_of_length_eq_zero ?_
    rw [Array.length_toList]
    have h2 : ¬ 0 < s.data.size := h
    omega
  exact ⟨by rw [hne]; rfl, hne⟩
/-- is it a path? -/
def pathOk (s : ByteArray) : Bool := longB s && decide (s.size ≤ 2048)
theorem pathOk_long {s : ByteArray} (h : pathOk s = true) : longB s = true ∧ s.size ≤ 2048 := by
  unfold pathOk at h
  rw [Bool.and_eq_true, decide_eq_true_eq] at h
  exact h
theorem pathOk_size {s : ByteArray} (h : ¬ s.size ≤ 2048) : pathOk s = false := by unfold pathOk; rw [decide_eq_false h, Bool.and_false]
theorem pathOk_first {s : ByteArray} (h : (bs s)[0]? ≠ some 47) : pathOk s = false := by unfold pathOk longB; rw [decide_eq_false h, Bool.and_false]; rfl
theorem pathOk_byte {s : ByteArray} {j : Nat} {x : Int} (hx : (bs s)[j]? = some x) (h : ¬ pathB x) : pathOk s = false := by unfold pathOk longB; rw [pathsB_no hx h]; rfl
theorem pathOk_yes {s : ByteArray} {j : Nat} (hj : s.size ≤ j) (h : pathsB ((bs s).take j) = true) (h0 : (bs s)[0]? = some 47) (hs : s.size ≤ 2048) : pathOk s = true := by
  rw [List.take_of_length_le (by rw [bs_len]; exact hj)] at h
  unfold pathOk longB
  rw [h, h0, decide_eq_true hs]; rfl
set_option maxHeartbeats 4000000 in
set_option maxRecDepth 100000 in
theorem urlPath_any (s : ByteArray) (hs : s.size ≤ 9223372036854775807) (w : World) : Calls Try.prog 111 #[.string s] w (Ret (.bool (pathOk s)) w) := by
  by_cases h0 : 0 < s.size
  · obtain ⟨e1, e2⟩ := toList_some h0
    by_cases hsz : s.size ≤ 2048
    · obtain ⟨x0, hx, ⟨hx0, hx1⟩, hbx⟩ := byte_at h0
      by_cases h47 : x0 = 47
      · have b47 : (x0 != 47) = false := by simpa using h47
        have HF : Hid ((bs s)[0]? = some 47) := by show _ = _; rw [hx, h47]
        clear hx h47
        have hsi : (s.size : Int) ≤ 2048 := by omega
        obtain ⟨cb, w2, hcv, hrd, hb2⟩ := bytes_of s w
        have HRD := Lib.hid hrd
        have HW0 := Lib.hid hb2
        clear hrd hb2
        generalize hg : w.heap.size = g at hcv HRD
        clear hg
        go_enter Try.func111, Try.ntmps111
        go_wp2_with fail
        clear hcv hbx e1 e2
        go_loop [4, 20] (fun _ ji => ∃ (j : Nat), ji = .int .i64 j ∧ j ≤ s.size ∧ Hid (pathsB ((bs s).take j) = true)) (fun _ ji => s.size - (intOf ji).toNat)
        case atStart => exact ⟨0, rfl, by omega, rfl⟩
        case round =>
          obtain ⟨j, rfl, hj, HP⟩ := hrel
          by_cases hlt : j < s.size
          · obtain ⟨b, o, x, hA, hbl, hc, hx⟩ := HRD.out.byte_at (k := j) (by rw [bs_len]; exact hlt)
            obtain ⟨rfl, rfl⟩ : g = b ∧ 0 = o := by simpa using hA
            have HX := Lib.hid hx
            have hxr := bs_rng (List.mem_of_getElem? hx)
            rw [Nat.zero_add] at hc
            clear hx hA
            by_cases a1 : x < 33
            · have HN := Lib.hid (pathOk_byte HX.out (fun h => by have := h.1; omega))
              go_wp2_with fail
              go_ret
              exact ⟨by rw [HN.out]; rfl, HW0.out⟩
            by_cases a2 : 126 < x
            · have HN := Lib.hid (pathOk_byte HX.out (fun h => by have := h.2.1; omega))
              go_wp2_with fail
              go_ret
              exact ⟨by rw [HN.out]; rfl, HW0.out⟩
            by_cases a3 : x = 63
            · have HN := Lib.hid (pathOk_byte HX.out (fun h => h.2.2.1 a3))
              subst a3
              go_wp2_with fail
              go_ret
              exact ⟨by rw [HN.out]; rfl, HW0.out⟩
            by_cases a4 : x = 35
            · have HN := Lib.hid (pathOk_byte HX.out (fun h => h.2.2.2 a4))
              subst a4
              go_wp2_with fail
              go_ret
              exact ⟨by rw [HN.out]; rfl, HW0.out⟩
            have b3 : (x == 63) = false := by simpa using a3
            have b4 : (x == 35) = false := by simpa using a4
            have HP2 : Hid (pathsB ((bs s).take (j + 1)) = true) := by show _ = _; rw [take_snoc HX.out, pathsB_snoc, HP.out]; exact decide_eq_true ⟨by omega, by omega, a3, a4⟩
            clear a3 a4
            go_wp2_with fail
            go_round
            case rel => exact ⟨j + 1, by go_num, by omega, HP2⟩
            case measure => simp [intOf]; omega
          · have HY := Lib.hid (pathOk_yes (by omega) HP.out HF.out hsz)
            go_wp2_with fail
            go_ret
            exact ⟨by rw [HY.out]; rfl, HW0.out⟩
      · have b47 : (x0 != 47) = true := by simpa using h47
        have HN := Lib.hid (pathOk_first (s := s) (by rw [hx]; intro e; exact h47 (Option.some.inj e)))
        have hsi : (s.size : Int) ≤ 2048 := by omega
        clear hx h47
        go_enter Try.func111, Try.ntmps111
        go_wp2_with fail
        go_ret
        exact ⟨by rw [HN.out]; rfl, Below.refl _ _⟩
    · have HN := Lib.hid (pathOk_size hsz)
      have hsi : 2048 < (s.size : Int) := by omega
      go_enter Try.func111, Try.ntmps111
      go_wp2_with fail
      go_ret
      exact ⟨by rw [HN.out]; rfl, Below.refl _ _⟩
  · obtain ⟨e1, e2⟩ := toList_none h0
    have HN : Hid (pathOk s = false) := pathOk_first (by rw [List.getElem?_eq_none (by rw [bs_len]; omega)]; simp)
    go_enter Try.func111, Try.ntmps111
    go_wp2_with fail
    go_ret
    exact ⟨by rw [HN.out]; rfl, Below.refl _ _⟩
set_option maxHeartbeats 4000000 in
set_option maxRecDepth 100000 in
theorem refPath_any (s : ByteArray) (hs : s.size ≤ 9223372036854775807) (w : World) : Calls Try.prog 74 #[.string s] w (Ret (.bool (pathOk s)) w) := by
  go_enter Try.func74, Try.ntmps74
  go_wp2_with fail
  go_loop [3] (fun ji => ∃ (j : Nat), ji = .int .i64 j ∧ j ≤ s.size ∧ Hid (pathsB ((bs s).take j) = true)) (fun ji => s.size - (intOf ji).toNat)
  case atStart => exact ⟨0, rfl, by omega, rfl⟩
  case round =>
    obtain ⟨j, rfl, hj, HP⟩ := hrel
    by_cases hlt : j < s.size
    · obtain ⟨x, hx, ⟨hx0, hx1⟩, hbx⟩ := byte_at hlt
      have HX := Lib.hid hx
      clear hx
      by_cases a1 : x < 33
      · have HN := Lib.hid (pathOk_byte HX.out (fun h => by have := h.1; omega))
        go_wp2_with fail
        go_ret
        exact ⟨by rw [HN.out]; rfl, Below.refl _ _⟩
      by_cases a2 : 126 < x
      · have HN := Lib.hid (pathOk_byte HX.out (fun h => by have := h.2.1; omega))
        go_wp2_with fail
        go_ret
        exact ⟨by rw [HN.out]; rfl, Below.refl _ _⟩
      by_cases a3 : x = 63
      · have HN := Lib.hid (pathOk_byte HX.out (fun h => h.2.2.1 a3))
        subst a3
        go_wp2_with fail
        go_ret
        exact ⟨by rw [HN.out]; rfl, Below.refl _ _⟩
      by_cases a4 : x = 35
      · have HN := Lib.hid (pathOk_byte HX.out (fun h => h.2.2.2 a4))
        subst a4
        go_wp2_with fail
        go_ret
        exact ⟨by rw [HN.out]; rfl, Below.refl _ _⟩
      have b3 : (x == 63) = false := by simpa using a3
      have b4 : (x == 35) = false := by simpa using a4
      have HP2 : Hid (pathsB ((bs s).take (j + 1)) = true) := by show _ = _; rw [take_snoc HX.out, pathsB_snoc, HP.out]; exact decide_eq_true ⟨by omega, by omega, a3, a4⟩
      clear a3 a4
      go_wp2_with fail
      go_round
      case rel => exact ⟨j + 1, by go_num, by omega, HP2⟩
      case measure => simp [intOf]; omega
    · by_cases h0 : 0 < s.size
      · by_cases hsz : s.size ≤ 2048
        · obtain ⟨x0, hx, ⟨hx0, hx1⟩, hbx⟩ := byte_at h0
          have hsi : (s.size : Int) ≤ 2048 := by omega
          by_cases h47 : x0 = 47
          · have b47 : (x0 == 47) = true := by simpa using h47
            have HY := Lib.hid (pathOk_yes (s := s) (j := j) (by omega) HP.out (by rw [hx, h47]) hsz)
            clear hx h47
            go_wp2_with fail
            go_ret
            exact ⟨by rw [HY.out]; rfl, Below.refl _ _⟩
          · have b47 : (x0 == 47) = false := by simpa using h47
            have HN := Lib.hid (pathOk_first (s := s) (by rw [hx]; intro e; exact h47 (Option.some.inj e)))
            clear hx h47
            go_wp2_with fail
            go_ret
            exact ⟨by rw [HN.out]; rfl, Below.refl _ _⟩
        · have HN := Lib.hid (pathOk_size hsz)
          have hsi : 2048 < (s.size : Int) := by omega
          go_wp2_with fail
          go_ret
          exact ⟨by rw [HN.out]; rfl, Below.refl _ _⟩
      · have HN : Hid (pathOk s = false) := pathOk_first (by rw [List.getElem?_eq_none (by rw [bs_len]; omega)]; simp)
        go_wp2_with fail
        go_ret
        exact ⟨by rw [HN.out]; rfl, Below.refl _ _⟩

theorem bs_append (s t : ByteArray) : bs (s ++ t) = bs s ++ bs t := by
  unfold bs
  rw [ByteArray.data_append, Array.toList_append, List.map_append]
def slashS : ByteArray := ByteArray.mk #[47]
theorem bs_slash : bs slashS = [47] := rfl
/-- one state more accepts -/
def markD (d : D) (s : Int) : D := { d with A := d.A.set s.toNat true }
/-- the set of a text's paths -/
def matchD (s : ByteArray) : D :=
  if bs s = [] then pathsD else if (bs s)[0]? ≠ some 47 then nilD 92 else if (bs s).getLast? = some 47 then begD s
  else if pathsB (bs s) then markD (begD (s ++ slashS)) ((begD (s ++ slashS)).run (begD (s ++ slashS)).S (symW (bs s))) else begD (s ++ slashS)
theorem suffix_slash (s : ByteArray) : Lib.hasSuffix s.data.toList slashS.data.toList = decide ((bs s).getLast? = some 47) := by
  have e : slashS.data.toList = [47] := rfl
  rw [e]
  unfold Lib.hasSuffix bs
  rw [List.getLast?_map]
  rcases hl : s.data.toList.getLast? with _ | b
  · have : s.data.toList = [] := List.getLast?_eq_none_iff.1 hl
    rw [this]; rfl
  · obtain ⟨ys, hys⟩ := List.getLast?_eq_some_iff.1 hl
    rw [hys]
    by_cases hb : b = 47
    · subst hb
      have h1 : [(47 : UInt8)].isSuffixOf (ys ++ [47]) = true := List.isSuffixOf_iff_suffix.2 ⟨ys, rfl⟩
      rw [h1]; rfl
    · have h1 : [(47 : UInt8)].isSuffixOf (ys ++ [b]) = false := by
        rcases hx : [(47 : UInt8)].isSuffixOf (ys ++ [b]) with _ | _
        · rfl
        · obtain ⟨zs, hz⟩ := List.isSuffixOf_iff_suffix.1 hx
          have := congrArg List.getLast? hz
          simp at this
          exact absurd this.symm hb
      rw [h1]
      symm
      refine decide_eq_false fun h => hb ?_
      have h2 : (b.toNat : Int) = 47 := Option.some.inj h
      have h3 : b.toNat = 47 := by omega
      exact UInt8.toNat_inj.1 h3
theorem DfaR.up {w w' : World} {base : Nat} {v : Value} {d : D} (h : DfaR w base v d) (hb : Below w.heap.size w w') : DfaR w' base v d :=
  h.touch (Touch.ofBelow hb) (Nat.le_refl _) fun j _ hj hk => by omega
theorem DfaR.mark {w : World} {base g cN cA : Nat} {AN : Option Addr} {d : D} (h1 : w.ownsRow base 3 1 (.slice AN d.N.length cN) d.N.length (d.N.map (Value.int .i64)))
    (h2 : w.ownsRow base 4 1 (.slice (some ⟨g, 0, none⟩) d.A.length cA) d.A.length (d.A.map Value.bool)) {s : Int} :
    DfaR (w.setCell ⟨g, s.toNat, none⟩ (.bool true)) base (dfaV d.K d.S AN d.N.length cN (some ⟨g, 0, none⟩) d.A.length cA) (markD d s) := by
  have el : (markD d s).A.length = d.A.length := by unfold markD; simp
  refine ⟨AN, cN, some ⟨g, 0, none⟩, cA, ?_, ?_, ?_⟩
  · show _ = dfaV d.K d.S AN d.N.length cN (some ⟨g, 0, none⟩) (markD d s).A.length cA
    rw [el]
  · exact ownsRow_setCell_other (a := ⟨g, s.toNat, none⟩) h1 (fun e => own_ne_own h2 h1 (by decide) e rfl) _
  · rw [el]
    have h := (h2.stored s.toNat (.bool true)).1
    show World.ownsRow _ _ _ _ _ _ ((d.A.set s.toNat true).map Value.bool)
    rw [List.map_set]
    exact h
theorem pathsD_is : pathsD = chainD 92 [13] true := rfl
theorem begD_ok {s : ByteArray} (hs : s.size ≤ 60000) : (begD s).Ok := by
  unfold begD
  split
  · exact chainD_ok (by omega) (by omega) (by unfold symW; rw [List.length_map, bs_len]; exact hs)
  · unfold nilD
    refine ⟨by decide, by decide, by decide, by decide, by simp, by decide, by decide, fun s hs => ?_⟩
    have := (List.mem_replicate.1 hs).2
    subst this
    simp
theorem begD_K (s : ByteArray) : (begD s).K = 92 := by unfold begD; split <;> rfl
set_option maxHeartbeats 4000000 in
set_option maxRecDepth 100000 in
theorem match_any (s : ByteArray) (hs : s.size ≤ 59999) (w : World) : Calls Try.prog 70 #[.string s] w (Gives w (matchD s) 0) := by
  have hsi : (s.size : Int) ≤ 60000 := by omega
  by_cases h0 : 0 < s.size
  · obtain ⟨e1, e2⟩ := toList_some h0
    have HNE : Hid (bs s ≠ []) := fun e => by
      have h := bs_len s
      rw [e] at h
      rw [← h] at h0
      exact absurd h0 (by simp)
    obtain ⟨x0, hx, ⟨hx0, hx1⟩, hbx⟩ := byte_at h0
    by_cases h47 : x0 = 47
    · have b47 : (x0 != 47) = false := by simpa using h47
      have HF : Hid ((bs s)[0]? = some 47) := by show _ = _; rw [hx, h47]
      clear hx h47
      have hsuf := Try.strings_HasSuffix s slashS
      rw [suffix_slash s] at hsuf
      by_cases hl : (bs s).getLast? = some 47
      · rw [decide_eq_true hl] at hsuf
        have HSF := Lib.hid hsuf
        have HM : Hid (matchD s = begD s) := by show _ = _; unfold matchD; rw [if_neg HNE.out, if_neg (fun h => h HF.out), if_pos hl]
        clear hsuf hl
        go_enter Try.func70, Try.ntmps70
        go_wp2_with fail
        refine (HSF.out _ (by omega)).mono ?_
        rintro e w1 ⟨rfl, rfl⟩
        go_wp2_with fail
        refine (pbegins_any s (by omega) _).mono ?_
        rintro e w2 ⟨v, rfl, hd, hb⟩
        obtain ⟨AN, cN, AA, cA, rfl⟩ := hd.form
        have hb1 := blk_below (Blk.new w 25 #[.int .i64 0, .int .i64 0, .slice none 0 0, .slice none 0 0]) hb
        obtain ⟨⟨p0, p1, p2, p3⟩, z0, z1, z2, z3⟩ := blk4 hb1
        have HD := Lib.hid hd; have HB2 := Lib.hid hb
        clear hd hb hb1
        go_wp2_with fail
        refine bodyPost_ret (v := .tuple #[dfaV (begD s).K (begD s).S AN (begD s).N.length cN AA (begD s).A.length cA, .int .i64 0]) ?_ rfl ?_
        · simp [results, Try.results70, go_sem, p0, p1, p2, p3]
        · rw [HM.out]
          exact ⟨_, rfl, gives_end HD.out HB2.out _ _ _ _⟩
      · rw [decide_eq_false hl] at hsuf
        have HSF := Lib.hid hsuf
        obtain ⟨t, ht⟩ : ∃ t, t = s ++ slashS := ⟨_, rfl⟩
        have hts : t.size ≤ 60000 := by rw [← bs_len, ht, bs_append, bs_slash, List.length_append, bs_len]; simp; omega
        have hadd := fun W => run_string_add_sum (P := Try.prog) W s slashS (by have e : slashS.size = 1 := rfl; omega)
        rw [← ht] at hadd
        obtain ⟨b, hb⟩ : ∃ b, b = pathsB (bs s) := ⟨_, rfl⟩
        have HBB := Lib.hid hb
        have HM : Hid (matchD s = if b then markD (begD t) ((begD t).run (begD t).S (symW (bs s))) else begD t) := by show _ = _; unfold matchD; rw [if_neg HNE.out, if_neg (fun h => h HF.out), if_neg hl, ← hb, ← ht]
        have HOK := Lib.hid (begD_ok hts)
        have HK := Lib.hid (begD_K t)
        have HPB := Lib.hid (fun W => pbegins_any t hts W)
        obtain ⟨d, hd⟩ : ∃ d, d = begD t := ⟨_, rfl⟩
        rw [← hd] at HM HOK HPB HK
        unfold slashS at hadd
        clear hsuf hl ht hb hd
        go_enter Try.func70, Try.ntmps70
        go_wp2_with fail
        refine (HSF.out _ (by omega)).mono ?_
        rintro e w1 ⟨rfl, rfl⟩
        go_wp2_with fail
        refine (HPB.out _).mono ?_
        rintro e w2 ⟨v, rfl, hd, hb⟩
        obtain ⟨AN, cN, AA, cA, rfl, ho1, ho2⟩ := hd
        have HO1 := Lib.hid ho1; have HO2 := Lib.hid ho2; have HB2 := Lib.hid hb
        clear ho1 ho2 hb hadd e1 e2 hbx
        go_wp2_with fail
        refine (symW_any s (by omega) _).mono ?_
        rintro e w3 ⟨A, c, rfl, hr, hb3⟩
        rw [← HBB.out]
        have hbox := blk_below (Blk.new w2 25 #[.int .i64 d.K, .int .i64 d.S, .slice AN d.N.length cN, .slice AA d.A.length cA]) hb3
        have HW23 := Lib.hid (bel_step (bel_new w2 (.cells #[.int .i64 d.K, .int .i64 d.S, .slice AN d.N.length cN, .slice AA d.A.length cA] 25)) hb3)
        have hres := blk_below (Blk.new w 25 #[.int .i64 0, .int .i64 0, .slice none 0 0, .slice none 0 0]) (bel_step HB2.out HW23.out)
        obtain ⟨⟨p0, p1, p2, p3⟩, z0, z1, z2, z3⟩ := blk4 hres
        have HR := Lib.hid hr
        obtain ⟨⟨a0, a1, a2, a3⟩, _⟩ := blk4 hbox
        have hltb := hbox.lt
        have HO1' := Lib.hid (own_below HO1.out HW23.out)
        have HO2' := Lib.hid (own_below HO2.out HW23.out)
        have HW03 := Lib.hid (bel_step HB2.out HW23.out)
        have hg2 : w.heap.size + 1 ≤ w2.heap.size := by have := HB2.out.size; simp at this; omega
        have hg3 : w2.heap.size + 1 ≤ w3.heap.size := by omega
        clear hr hb3 hbox hres
        cases b with
        | false =>
          go_wp2_with fail
          refine bodyPost_ret (v := .tuple #[dfaV d.K d.S AN d.N.length cN AA d.A.length cA, .int .i64 0]) ?_ rfl ?_
          · simp [results, Try.results70, go_sem, p0, p1, p2, p3]
          · rw [HM.out]
            exact ⟨_, rfl, gives_end (d := d) ⟨_, _, _, _, rfl, HO1'.out, HO2'.out⟩ HW03.out _ _ _ _⟩
        | true =>
          obtain ⟨W, hW⟩ : ∃ W, W = wordL s := ⟨_, rfl⟩
          have HWE : Hid (W = symW (bs s)) := by show _ = _; rw [hW]; unfold wordL; rw [← HBB.out]; rfl
          have HSY : Hid (symsB 92 W = true) := by show _ = _; rw [hW]; exact wordL_syms s
          rw [← hW] at HR ⊢
          have HWL : Hid (W.length ≤ 60000) := by show _ ≤ _; rw [hW]; have := wordL_len s; omega
          have hWl := HWL.out
          clear hW
          go_wp2_with fail
          go_loop [8, 10, 54] (fun at_ _ ji => ∃ (j : Nat) (q : Int), at_ = .int .i64 q ∧ ji = .int .i64 j ∧ j ≤ W.length ∧ 0 ≤ q ∧ q < d.A.length ∧ Hid (q = d.run d.S (W.take j))) (fun _ _ ji => W.length - (intOf ji).toNat)
          case atStart => exact ⟨0, d.S, rfl, rfl, by omega, HOK.out.2.2.2.2.2.1, HOK.out.2.2.2.2.2.2.1, rfl⟩
          case round =>
            obtain ⟨j, q, rfl, rfl, hj, hq0, hq1, HQ⟩ := hrel
            by_cases hlt : j < W.length
            · obtain ⟨b, o, x, rfl, hbl, hc, hx⟩ := HR.out.int_at hlt
              have hxr := symsB_iff.1 HSY.out x (List.mem_of_getElem? hx)
              rw [← HK.out] at hxr
              have hmb := HOK.out.mul_bd (s := q) ⟨hq0, hq1⟩
              have hix := HOK.out.idx (s := q) (x := x) ⟨hq0, hq1⟩ hxr
              have hK2 := HOK.out.2.1
              obtain ⟨gn, on, r, hAn, hgn, hcq, hr⟩ := (Rd.of_own HO1'.out (Nat.le_refl _)).int_ix hix.1 hix.2
              have hrr := HOK.out.step_lt (s := q) (x := x) ⟨hq0, hq1⟩ hxr
              have hst : d.step q x = r := hr
              rw [hst] at hrr
              obtain ⟨r0, r1⟩ := hrr
              obtain ⟨hm1, hm2⟩ := hmb
              obtain ⟨hi1, hi2⟩ := hix
              obtain ⟨hx0, hx1⟩ := hxr
              have v1 : IntKind.i64.wrap (q * d.K) = q * d.K := by rw [IntKind.wrap_i64]; omega
              have v2 : IntKind.i64.wrap (q * d.K + x) = q * d.K + x := by rw [IntKind.wrap_i64]; omega
              have HQ2 : Hid (r = d.run d.S (W.take (j + 1))) := by show _ = _; rw [take_snoc hx, D.run_snoc, ← HQ.out, hst]
              subst hAn
              clear hx hr hst
              go_wp2_with fail
              go_round
              case rel => exact ⟨j + 1, r, rfl, by go_num, by omega, r0, r1, HQ2⟩
              case measure => simp [intOf]; omega
            · have hqe := HQ.out
              rw [List.take_of_length_le (by omega), HWE.out] at hqe
              have HQE := Lib.hid hqe
              clear hqe
              obtain ⟨ga, cap, hA, hga1, hga2⟩ := HO2.out.form (by omega)
              obtain ⟨rfl, rfl⟩ : AA = some ⟨ga, 0, none⟩ ∧ cA = cap := by
                injection hA with h1 _ h3
                exact ⟨h1, h3⟩
              have hga3 : w.heap.size + 1 ≤ ga := by simpa using hga1
              have hql : q.toNat < d.A.length := by omega
              have hz : w3.frozen? ⟨ga, q.toNat, none⟩ = false := HO2'.out.frozenAt _
              have hcc : w3.cell? ⟨ga, q.toNat, none⟩ = some (.bool (d.A[q.toNat]'hql)) := by
                rw [HO2'.out.cellAt _ (by omega), List.getElem?_map, List.getElem?_eq_getElem hql]; rfl
              obtain ⟨bq, hbq⟩ : ∃ bq, bq = d.A[q.toNat]'hql := ⟨_, rfl⟩
              rw [← hbq] at hcc
              clear hA hbq hga1
              go_wp2_with fail
              refine bodyPost_ret (v := .tuple #[dfaV d.K d.S AN d.N.length cN (some ⟨ga, 0, none⟩) d.A.length cA, .int .i64 0]) ?_ rfl ?_
              · simp [results, Try.results70, go_sem, p0, p1, p2, p3]
              · rw [HM.out, if_pos trivial, ← HQE.out]
                have hd1 := DfaR.mark (s := q) HO1'.out HO2'.out
                have hbl : Below (w.alloc (.cells #[.int .i64 0, .int .i64 0, .slice none 0 0, .slice none 0 0] 25)).heap.size (w.alloc (.cells #[.int .i64 0, .int .i64 0, .slice none 0 0, .slice none 0 0] 25)) (w3.setCell ⟨ga, q.toNat, none⟩ (.bool true)) :=
                  HW03.out.setCell (by simp; omega) _
                exact ⟨_, rfl, gives_end hd1 hbl _ _ _ _⟩
    · have b47 : (x0 != 47) = true := by simpa using h47
      have HM : Hid (matchD s = noneD 92) := by
        show _ = _
        unfold matchD
        rw [if_neg HNE.out, if_pos (by rw [hx]; intro e; exact h47 (Option.some.inj e))]
        rfl
      clear hx h47
      go_enter Try.func70, Try.ntmps70
      go_wp2_with fail
      refine (none_any 92 _).mono ?_
      rintro e w2 ⟨v, rfl, hd, hb⟩
      obtain ⟨AN, cN, AA, cA, rfl⟩ := hd.form
      have hb1 := blk_below (Blk.new w 25 #[.int .i64 0, .int .i64 0, .slice none 0 0, .slice none 0 0]) hb
      obtain ⟨⟨p0, p1, p2, p3⟩, z0, z1, z2, z3⟩ := blk4 hb1
      have HD := Lib.hid hd; have HB2 := Lib.hid hb
      have e2' : noneE 92 = 0 := rfl
      clear hd hb hb1
      go_wp2_with fail
      refine bodyPost_ret (v := .tuple #[dfaV (noneD 92).K (noneD 92).S AN (noneD 92).N.length cN AA (noneD 92).A.length cA, .int .i64 0]) ?_ rfl ?_
      · simp [results, Try.results70, go_sem, p0, p1, p2, p3]
      · rw [HM.out]
        exact ⟨_, rfl, gives_end HD.out HB2.out _ _ _ _⟩
  · obtain ⟨e1, e2⟩ := toList_none h0
    have HM : Hid (matchD s = pathsD) := by
      show _ = _
      unfold matchD
      rw [if_pos (List.eq_nil_of_length_eq_zero (by rw [bs_len]; omega))]
    go_enter Try.func70, Try.ntmps70
    go_wp2_with fail
    refine (paths_any _).mono ?_
    rintro e w2 ⟨v, rfl, hd, hb⟩
    obtain ⟨AN, cN, AA, cA, rfl⟩ := hd.form
    have hb1 := blk_below (Blk.new w 25 #[.int .i64 0, .int .i64 0, .slice none 0 0, .slice none 0 0]) hb
    obtain ⟨⟨p0, p1, p2, p3⟩, z0, z1, z2, z3⟩ := blk4 hb1
    have HD := Lib.hid hd; have HB2 := Lib.hid hb
    clear hd hb hb1
    go_wp2_with fail
    refine bodyPost_ret (v := .tuple #[dfaV pathsD.K pathsD.S AN pathsD.N.length cN AA pathsD.A.length cA, .int .i64 0]) ?_ rfl ?_
    · simp [results, Try.results70, go_sem, p0, p1, p2, p3]
    · rw [HM.out]
      exact ⟨_, rfl, gives_end HD.out HB2.out _ _ _ _⟩
end Go.Proofs.Ytmpcoclgcldclaa
