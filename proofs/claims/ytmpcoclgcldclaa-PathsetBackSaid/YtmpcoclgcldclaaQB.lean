/- Words for texts and slices of bytes; the walks of symbol's bytes, Bytes, FromBytes and of the document's Byte, Bytes, FromBytes, Word, Long. -/
import Derived.Test.YtmpcoclgcldclaaQA
import Derived.Test.YtmpcoclgcldclaaMem2
import Derived.Test.YtmpcoclgcldclaaX
import Derived.Laws.IdiomStrings
import Derived.Laws.Concat
import Derived.Laws.Strings3
import Derived.Test.YtmpcoclgcldclaaShelf
namespace Go.Proofs.Ytmpcoclgcldclaa
open Go.RowKit

theorem Try.info5 : (Try.prog.info? 5).map (fun i => (i.zero, i.size, i.bytes)) = some (some (.int .u8 0), 1, 1) := by kernel_rfl
set_option maxRecDepth 100000 in
/-- a row of bytes as a text -/
theorem str_of_own {w : World} {base : Nat} {A : Option Addr} {n c : Nat} {l : List Int} (h : w.ownsRow base 5 1 (.slice A n c) n (l.map (Value.int .u8))) :
    (convert 102 9 (.slice A n c)).run Try.prog w = .ok (.string (strOfNums l)) w := by
  have hn : l.length = n := by have := h.1; simpa using this
  rcases h.2 with ⟨h0, h1⟩ | ⟨g, cap, cur, hv, hb, hh, hnc, hm, hs, hx⟩
  · injection h0 with e1 e2 e3
    subst e1 h1
    have : l = [] := List.eq_nil_of_length_eq_zero hn
    subst this
    exact run_convert_bytes_nil w 102 5 Try.underlying102 Try.underlying5 _ _ 9 Try.underlying9
  · injection hv with e1 e2 e3
    subst e1 e3
    refine run_convert_bytes_arg w 102 5 Try.underlying102 Try.underlying5 g 0 n c l hn (fun i hi => ?_) 9 Try.underlying9
    rw [Nat.zero_add, h.cellAt i (by omega), List.getElem?_map, List.getElem?_eq_getElem (by omega), List.getD_eq_getElem?_getD, List.getElem?_eq_getElem (by omega)]
    rfl
/-- a text's byte -/
theorem byte_at {s : ByteArray} {j : Nat} (hj : j < s.size) : ∃ x : Int, (bs s)[j]? = some x ∧ (0 ≤ x ∧ x ≤ 255) ∧ ∀ h : j < s.size, ((s[j]'h).toNat : Int) = x := by
  have hu := (s[j]'hj).toNat_lt
  refine ⟨((s[j]'hj).toNat : Int), ?_, by omega, fun h => rfl⟩
  unfold bs
  rw [List.getElem?_map, Array.getElem?_toList, Array.getElem?_eq_getElem hj]
  rfl
set_option maxHeartbeats 4000000 in
set_option maxRecDepth 100000 in
theorem symBytes_any (w : World) : Calls Try.prog 123 #[] w (Ret (.string allS) w) := by
  obtain ⟨i5, hi, hz, hs, hb⟩ := info_parts Try.info5
  have HI := Lib.hid hi; have HZ := Lib.hid hz; have HS := Lib.hid hs; have HB := Lib.hid hb
  clear hi hz hs hb
  go_enter Try.func123, Try.ntmps123
  go_wp2_with fail
  go_loopw [1, 2] (fun sl ci wr => ∃ (k : Int) (n : Nat) (A : Option Addr) (c : Nat), sl = .slice A n c ∧ ci = .int .u8 k ∧ 33 ≤ k ∧ k ≤ 127 ∧ n ≤ 127 ∧ Hid (cntB k = n) ∧ Hid (wr.ownsRow w.heap.size 5 1 (.slice A n c) n ((upTo n).map (Value.int .u8))) ∧ Hid (Below w.heap.size w wr)) (fun _ ci _ => (127 - intOf ci).toNat)
  case atStart => exact ⟨33, 0, none, 0, rfl, rfl, by omega, by omega, by omega, by show cntB 33 = _; decide, World.ownsRow_nil _ _ _ _, Below.refl _ _⟩
  case round =>
    obtain ⟨k, n, A, c, rfl, rfl, hk1, hk2, hn, HC, HO, HW⟩ := hrel
    have v1 : k ≤ 126 → IntKind.u8.wrap (k + 1) = k + 1 := fun h => by rw [IntKind.wrap_u8]; omega
    by_cases hk : k ≤ 126
    · have v2 := v1 hk
      clear v1
      by_cases h63 : k = 63
      · subst h63
        have HC2 : Hid (cntB (63 + 1) = n) := (cntB_skip (.inl rfl)).trans HC.out
        go_wp2_with fail
        go_roundw
        case rel => exact ⟨64, n, A, c, rfl, rfl, by omega, by omega, hn, HC2, HO, HW⟩
        case measure => simp [intOf]
      by_cases h35 : k = 35
      · subst h35
        have HC2 : Hid (cntB (35 + 1) = n) := (cntB_skip (.inr rfl)).trans HC.out
        go_wp2_with fail
        go_roundw
        case rel => exact ⟨36, n, A, c, rfl, rfl, by omega, by omega, hn, HC2, HO, HW⟩
        case measure => simp [intOf]
      have hp : pathB k := ⟨hk1, hk, h63, h35⟩
      have b63 : (k != 63) = true := by simpa using h63
      have b35 : (k != 35) = true := by simpa using h35
      have HC2 : Hid (cntB (k + 1) = ((n + 1 : Nat) : Int)) := by show _ = _; rw [cntB_step hp, HC.out]; omega
      have HBY : Hid (bytI (n : Int) = k) := by show _ = _; rw [← HC.out]; exact bytI_cnt hp
      have hn2 : n + 1 ≤ 127 := by have := cntB_rng hp; have := HC.out; omega
      have HOA := Lib.hid (HO.out.alloc (.cells #[.int .u8 k] 5))
      clear hp
      go_wp2_with (at_builtin; go_must (refine wpList_append_own_at _ rfl (.tmp 13) (.tmp 15) 102 rfl w.heap.size 5 i5 (.int .u8 0) 1 1 Try.underlying102 HI.out HZ.out HS.out HB.out rfl (by omega) (.slice A n c) n ((upTo n).map (Value.int .u8)) rfl HOA.out ⟨wr.heap.size, 0, none⟩ 1 1 [.int .u8 k] rfl rfl (World.news_of_block (cs := #[.int .u8 k]) (t := 5) (fr := (0, 0)) (heap_alloc_new wr _)) ?d2 ?d3 ?d4 ?d5 ?_))
      case d2 => intro u hu; rw [List.mem_singleton.1 hu]; rfl
      case d3 => unfold maxLen; omega
      case d4 => omega
      case d5 => have := HW.out.size; simp; omega
      intro v0 w9 hown9 hgr9 _ hat9
      obtain ⟨A2, c2, rfl⟩ := own_form hown9
      have HO2 : Hid (w9.ownsRow w.heap.size 5 1 (.slice A2 (n + 1) c2) (n + 1) ((upTo (n + 1)).map (Value.int .u8))) := by
        rw [upTo_succ, List.map_append, HBY.out]; exact hown9
      have HW2 : Hid (Below w.heap.size w w9) := by
        have ht := Touch.ofGrown hgr9
        exact (bel_alloc HW.out _).trans (ht.toBelow (by have := HW.out.size; simp; omega) (fun k hk e => by have := (HO.out.lt k e.symm).1; omega))
      clear hown9 hgr9 hat9
      go_wp2_with fail
      go_roundw
      case rel => exact ⟨k + 1, n + 1, A2, c2, rfl, rfl, by omega, by omega, hn2, HC2, HO2, HW2⟩
      case measure => simp [intOf]; omega
    · clear v1
      obtain rfl : k = 127 := by omega
      obtain rfl : n = 92 := by
        have e : (n : Int) = 92 := HC.out.symm.trans (by decide)
        omega
      have hcv := str_of_own HO.out
      rw [show strOfNums (upTo 92) = allS from rfl] at hcv
      go_wp2_with fail
      go_ret
      exact ⟨rfl, HW.out⟩
set_option maxHeartbeats 4000000 in
set_option maxRecDepth 100000 in
/-- the symbol of a byte, counted -/
theorem refByte_any (c : Int) (h0 : 0 ≤ c) (h1 : c ≤ 255) (w : World) : Calls Try.prog 104 #[.int .u8 c] w fun e w' => e = .returned (.int .i64 (symI c)) ∧ w' = w := by
  go_enter Try.func104, Try.ntmps104
  go_wp2_with fail
  go_loop [3, 4] (fun ni ci => ∃ (k n : Int), ni = .int .i64 n ∧ ci = .int .u8 k ∧ 33 ≤ k ∧ k ≤ 127 ∧ 0 ≤ n ∧ n ≤ 127 ∧ Hid (cntB k = n) ∧ (pathB c → k ≤ c)) (fun _ ci => (127 - intOf ci).toNat)
  case atStart => exact ⟨33, 0, rfl, rfl, by omega, by omega, by omega, by omega, by show cntB 33 = _; decide, fun h => h.1⟩
  case round =>
    obtain ⟨k, n, rfl, rfl, hk1, hk2, hn0, hn1, HC, hp⟩ := hrel
    have v1 : k ≤ 126 → IntKind.u8.wrap (k + 1) = k + 1 := fun h => by rw [IntKind.wrap_u8]; omega
    by_cases hk : k < 127
    · have v2 := v1 (by omega)
      clear v1
      by_cases h63 : k = 63
      · subst h63
        have HC2 : Hid (cntB (63 + 1) = n) := (cntB_skip (.inl rfl)).trans HC.out
        have hp2 : pathB c → (64 : Int) ≤ c := fun h => by have := hp h; have := h.2.2.1; omega
        clear hp
        go_wp2_with fail
        go_round
        case rel => exact ⟨64, n, rfl, rfl, by omega, by omega, hn0, hn1, HC2, hp2⟩
        case measure => simp [intOf]
      by_cases h35 : k = 35
      · subst h35
        have HC2 : Hid (cntB (35 + 1) = n) := (cntB_skip (.inr rfl)).trans HC.out
        have hp2 : pathB c → (36 : Int) ≤ c := fun h => by have := hp h; have := h.2.2.2; omega
        clear hp
        go_wp2_with fail
        go_round
        case rel => exact ⟨36, n, rfl, rfl, by omega, by omega, hn0, hn1, HC2, hp2⟩
        case measure => simp [intOf]
      have hpk : pathB k := ⟨hk1, by omega, h63, h35⟩
      have b63 : (k == 63) = false := by simpa using h63
      have b35 : (k == 35) = false := by simpa using h35
      have hnr : n ≤ 91 := by have := cntB_rng hpk; have := HC.out; omega
      by_cases hkc : k = c
      · have bkc : (k == c) = true := by simpa using hkc
        have HS : Hid (symI c = n) := by show _ = _; rw [← hkc, symI_yes hpk, HC.out]
        clear hkc
        clear hp hpk
        go_wp2_with fail
        go_ret
        exact ⟨by rw [HS.out]; rfl, rfl⟩
      · have HC2 : Hid (cntB (k + 1) = n + 1) := by show _ = _; rw [cntB_step hpk, HC.out]
        have bkc : (k == c) = false := by simpa using hkc
        have hp2 : pathB c → k + 1 ≤ c := fun h => by have := hp h; omega
        clear hp hpk
        go_wp2_with fail
        go_round
        case rel => exact ⟨k + 1, n + 1, rfl, rfl, by omega, by omega, by omega, by omega, HC2, hp2⟩
        case measure => simp [intOf]; omega
    · clear v1
      have HS : Hid (symI c = -1) := symI_no fun h => by have := hp h; have := h.2.1; omega
      clear hp
      go_wp2_with fail
      go_ret
      exact ⟨by rw [HS.out]; rfl, rfl⟩
attribute [local go_sem ↓] Go.wp_at_zero Go.wp_at_succ

/-- the word of a text's bytes; none, if one of them is no path's -/
def wordL (s : ByteArray) : List Int := if pathsB (bs s) then symW (bs s) else []
theorem wordL_len (s : ByteArray) : (wordL s).length ≤ s.size := by
  unfold wordL
  split
  · unfold symW; rw [List.length_map, bs_len]; exact Nat.le_refl _
  · simp
theorem wordL_syms (s : ByteArray) : symsB 92 (wordL s) = true := by
  unfold wordL
  split
  · rename_i h; exact symsB_iff.2 (bytW_symW h).2
  · rfl
def BytesR (s : ByteArray) (w : World) (e : Ending) (w' : World) : Prop :=
  ∃ (A : Option Addr) (c : Nat), e = .returned (.tuple #[.slice A (wordL s).length c, .bool (pathsB (bs s))]) ∧ Rd w' w'.heap.size A ((wordL s).map (Value.int .i64)) ∧ Below w.heap.size w w'
theorem bytesR_no {s : ByteArray} {w w' : World} (h : pathsB (bs s) = false) (hb : Below w.heap.size w w') : BytesR s w (.returned (.tuple #[.slice none 0 0, .bool false])) w' := by
  refine ⟨none, 0, ?_, ?_, hb⟩
  · unfold wordL; rw [h]; rfl
  · unfold wordL; rw [h]; exact Rd.nil_
theorem bytesR_yes {s : ByteArray} {w w' : World} {A : Option Addr} {j c : Nat} (hj : s.size ≤ j) (hj2 : j ≤ s.size) (h : pathsB ((bs s).take j) = true) (ho : w'.ownsRow w.heap.size 3 1 (.slice A j c) j ((symW ((bs s).take j)).map (Value.int .i64))) (hb : Below w.heap.size w w') : BytesR s w (.returned (.tuple #[.slice A j c, .bool true])) w' := by
  have e : (bs s).take j = bs s := List.take_of_length_le (by rw [bs_len]; exact hj)
  rw [e] at h ho
  have hw : wordL s = symW (bs s) := by unfold wordL; rw [h]; rfl
  have hl : (wordL s).length = j := by rw [hw]; unfold symW; rw [List.length_map, bs_len]; omega
  refine ⟨A, c, ?_, ?_, hb⟩
  · rw [hl, h]
  · rw [hw]; exact Rd.of_own ho (Nat.le_refl _)
theorem symW_snoc (l : List Int) (c : Int) : symW (l ++ [c]) = symW l ++ [symI c] := by simp [symW]
/-- []byte(s) -/
theorem bytes_of (s : ByteArray) (w : World) : ∃ (c : Nat) (w1 : World), (convert 9 102 (.string s)).run Try.prog w = .ok (.slice (some ⟨w.heap.size, 0, none⟩) s.size c) w1 ∧ Rd w1 w1.heap.size (some ⟨w.heap.size, 0, none⟩) ((bs s).map (Value.int .u8)) ∧ Below w.heap.size w w1 := by
  refine ⟨_, _, run_bytes_of_string w 9 102 5 s Try.underlying9 Try.underlying102 Try.underlying5, fun _ => ⟨_, _, rfl, by simp, fun j u hu => ?_⟩, ?_⟩
  · rw [Nat.zero_add]
    have hj : j < s.data.size := by
      have h := (List.getElem?_eq_some_iff.1 hu).1
      rw [List.length_map, bs_len] at h
      exact h
    have h1 := World.cell?_alloc_mark w.drew (bytesRow s (grownCap w s.size 0 5)) 5 ((bytesRow s (grownCap w s.size 0 5)).size, (bytesRow s (grownCap w s.size 0 5)).size + 1) j
    rw [bytesRow_at s _ j hj] at h1
    refine Eq.trans h1 ?_
    rw [← hu]
    unfold bs
    rw [List.getElem?_map, List.getElem?_map, Array.getElem?_toList, Array.getElem?_eq_getElem hj]
    rfl
  · exact (Below.refl _ _).drew.alloc (Nat.le_refl _) _
theorem Rd.byte_at {w : World} {B : Nat} {A : Option Addr} {ks : List Int} {k : Nat} (h : Rd w B A (ks.map (Value.int .u8))) (hk : k < ks.length) :
    ∃ b o x, A = some ⟨b, o, none⟩ ∧ b < B ∧ w.cell? ⟨b, o + k, none⟩ = some (.int .u8 x) ∧ ks[k]? = some x := by
  obtain ⟨b, o, e, hb, hc⟩ := h.at_ (k := k) (by simpa using hk)
  exact ⟨b, o, ks[k], e, hb, by simpa using hc, List.getElem?_eq_getElem hk⟩
set_option maxHeartbeats 4000000 in
set_option maxRecDepth 100000 in
theorem refBytes_any (s : ByteArray) (hs : s.size ≤ 100000) (w : World) : Calls Try.prog 105 #[.string s] w (BytesR s w) := by
  obtain ⟨i3, hi, hz, hs3, hb⟩ := info_parts Try.info3
  have HI := Lib.hid hi; have HZ := Lib.hid hz; have HS := Lib.hid hs3; have HB := Lib.hid hb
  clear hi hz hs3 hb
  have HO0 : Hid ((w.alloc (.cells #[] 3)).ownsRow w.heap.size 3 1 (.slice (some ⟨w.heap.size, 0, none⟩) 0 0) 0 ((symW ((bs s).take 0)).map (Value.int .i64))) := by
    have h := World.ownsRow_lit (base := w.heap.size) (e := 3) (size := 1) w #[] 0 (by omega) (by decide) rfl
    exact h
  go_enter Try.func105, Try.ntmps105
  go_wp2_with fail
  go_loopw [4, 5, 6] (fun sl ji _ wr => ∃ (j : Nat) (A : Option Addr) (c : Nat), sl = .slice A j c ∧ ji = .int .i64 j ∧ j ≤ s.size ∧ Hid (pathsB ((bs s).take j) = true) ∧ Hid (wr.ownsRow w.heap.size 3 1 (.slice A j c) j ((symW ((bs s).take j)).map (Value.int .i64))) ∧ Hid (Below w.heap.size w wr)) (fun _ ji _ _ => s.size - (intOf ji).toNat)
  case atStart => exact ⟨0, _, 0, rfl, rfl, by omega, rfl, HO0, bel_new w _⟩
  case round =>
    clear HO0
    obtain ⟨j, A, c, rfl, rfl, hj, HP, HO, HW⟩ := hrel
    by_cases hlt : j < s.size
    · obtain ⟨x, hx, ⟨hx0, hx1⟩, hbx⟩ := byte_at hlt
      have HX := Lib.hid hx
      obtain ⟨y, hy⟩ : ∃ y, y = symI x := ⟨_, rfl⟩
      have HBY := Lib.hid (refByte_any x hx0 hx1 wr)
      rw [← hy] at HBY
      by_cases hp : pathB x
      · have hyr : 0 ≤ y := by rw [hy]; exact (symI_rng hp).1
        have HP2 : Hid (pathsB ((bs s).take (j + 1)) = true) := by show _ = _; rw [take_snoc HX.out, pathsB_snoc, HP.out]; exact decide_eq_true hp
        have HY := Lib.hid hy
        clear hx hp hy
        go_wp2_with fail
        refine HBY.out.mono ?_
        rintro e w1 ⟨rfl, rfl⟩
        clear HBY
        have HOA := Lib.hid (HO.out.alloc (.cells #[.int .i64 y] 3))
        go_wp2_with (at_builtin; go_must (refine wpList_append_own_at _ rfl (.tmp 20) (.tmp 22) 22 rfl w.heap.size 3 i3 (.int .i64 0) 1 8 Try.underlying22 HI.out HZ.out HS.out HB.out rfl (by omega) (.slice A j c) j ((symW ((bs s).take j)).map (Value.int .i64)) rfl HOA.out ⟨w1.heap.size, 0, none⟩ 1 1 [.int .i64 y] rfl rfl (World.news_of_block (cs := #[.int .i64 y]) (t := 3) (fr := (0, 0)) (heap_alloc_new w1 _)) ?d2 ?d3 ?d4 ?d5 ?_))
        case d2 => intro u hu; rw [List.mem_singleton.1 hu]; rfl
        case d3 => unfold maxLen; omega
        case d4 => omega
        case d5 => have := HW.out.size; simp; omega
        intro v0 w9 hown9 hgr9 _ hat9
        obtain ⟨A2, c2, rfl⟩ := own_form hown9
        have HO2 : Hid (w9.ownsRow w.heap.size 3 1 (.slice A2 (j + 1) c2) (j + 1) ((symW ((bs s).take (j + 1))).map (Value.int .i64))) := by
          show World.ownsRow _ _ _ _ _ _ _
          rw [take_snoc HX.out, symW_snoc, List.map_append, ← HY.out]; exact hown9
        have HW2 : Hid (Below w.heap.size w w9) := by
          have ht := Touch.ofGrown hgr9
          exact (bel_alloc HW.out _).trans (ht.toBelow (by have := HW.out.size; simp; omega) (fun k hk e => by have := (HO.out.lt k e.symm).1; omega))
        clear hown9 hgr9 hat9
        go_wp2_with fail
        go_roundw
        case rel => exact ⟨j + 1, A2, c2, rfl, by go_num, by omega, HP2, HO2, HW2⟩
        case measure => simp [intOf]; omega
      · have hyr : y < 0 := by rw [hy]; exact symI_neg.2 hp
        have HN : Hid (pathsB (bs s) = false) := pathsB_no HX.out hp
        clear hx hp hy
        go_wp2_with fail
        refine HBY.out.mono ?_
        rintro e w1 ⟨rfl, rfl⟩
        clear HBY
        go_wp2_with fail
        go_ret2
        exact bytesR_no HN.out HW.out
    · go_wp2_with fail
      go_ret2
      exact bytesR_yes (by omega) hj HP.out HO.out HW.out
set_option maxHeartbeats 4000000 in
set_option maxRecDepth 100000 in
theorem symW_any (s : ByteArray) (hs : s.size ≤ 100000) (w : World) : Calls Try.prog 107 #[.string s] w (BytesR s w) := by
  obtain ⟨i3, hi, hz, hs3, hb⟩ := info_parts Try.info3
  have HI := Lib.hid hi; have HZ := Lib.hid hz; have HS := Lib.hid hs3; have HB := Lib.hid hb
  clear hi hz hs3 hb
  go_enter Try.func107, Try.ntmps107
  go_wp2_with fail
  refine (symBytes_any w).mono ?_
  rintro e w1 ⟨rfl, hb1⟩
  obtain ⟨cb, w2, hcv, hrd, hb2⟩ := bytes_of s w1
  have HRD := Lib.hid hrd
  have HW0 := Lib.hid (bel_step hb1 hb2)
  obtain ⟨S, hS⟩ : ∃ S, S = allS := ⟨_, rfl⟩
  rw [← hS]
  have HIX : Hid (∀ (x : Int) (W : World), 0 ≤ x → x ≤ 255 → Calls Try.prog 124 #[.string S, .int .u8 x] W fun e w' => e = .returned (.int .i64 (symI x)) ∧ w' = W) := fun x W h0 h1 => by
    have h := Try.strings_IndexByte S x W
    rw [hS] at h ⊢
    rw [index_all h0 h1] at h
    exact h
  clear hrd hb1 hb2 hS
  generalize hg : w1.heap.size = g at hcv HRD
  clear hg
  go_wp2_with fail
  clear hcv
  go_loopw [5, 7, 8, 13] (fun sl _ _ ji wr => ∃ (j : Nat) (A : Option Addr) (c : Nat), sl = .slice A j c ∧ ji = .int .i64 j ∧ j ≤ s.size ∧ Hid (pathsB ((bs s).take j) = true) ∧ Hid (wr.ownsRow w2.heap.size 3 1 (.slice A j c) j ((symW ((bs s).take j)).map (Value.int .i64))) ∧ Hid (Below w2.heap.size w2 wr)) (fun _ _ _ ji _ => s.size - (intOf ji).toNat)
  case atStart => exact ⟨0, none, 0, rfl, rfl, by omega, rfl, World.ownsRow_nil _ _ _ _, Below.refl _ _⟩
  case round =>
    obtain ⟨j, A, c, rfl, rfl, hj, HP, HO, HB2⟩ := hrel
    have HW := Lib.hid (bel_step HW0.out HB2.out)
    by_cases hlt : j < s.size
    · obtain ⟨b, o, x, hA, hbl, hc, hx⟩ := (HRD.out.below HB2.out).byte_at (k := j) (by rw [bs_len]; exact hlt)
      obtain ⟨rfl, rfl⟩ : g = b ∧ 0 = o := by simpa using hA
      have hxr := bs_rng (List.mem_of_getElem? hx)
      obtain ⟨hx0, hx1⟩ := hxr
      have HX := Lib.hid hx
      rw [Nat.zero_add] at hc
      have hglt : g < wr.heap.size := Nat.lt_of_lt_of_le hbl HB2.out.size
      obtain ⟨y, hy⟩ : ∃ y, y = symI x := ⟨_, rfl⟩
      have HBY := Lib.hid (HIX.out x wr hx0 hx1)
      rw [← hy] at HBY
      by_cases hp : pathB x
      · have hyr : 0 ≤ y := by rw [hy]; exact (symI_rng hp).1
        have HP2 : Hid (pathsB ((bs s).take (j + 1)) = true) := by show _ = _; rw [take_snoc HX.out, pathsB_snoc, HP.out]; exact decide_eq_true hp
        have HY := Lib.hid hy
        clear hx hp hy hA
        go_wp2_with fail
        refine HBY.out.mono ?_
        rintro e w3 ⟨rfl, rfl⟩
        clear HBY
        have HOA := Lib.hid (HO.out.alloc (.cells #[.int .i64 y] 3))
        go_wp2_with (at_builtin; go_must (refine wpList_append_own_at _ rfl (.tmp 22) (.tmp 24) 22 rfl w2.heap.size 3 i3 (.int .i64 0) 1 8 Try.underlying22 HI.out HZ.out HS.out HB.out rfl (by omega) (.slice A j c) j ((symW ((bs s).take j)).map (Value.int .i64)) rfl HOA.out ⟨w3.heap.size, 0, none⟩ 1 1 [.int .i64 y] rfl rfl (World.news_of_block (cs := #[.int .i64 y]) (t := 3) (fr := (0, 0)) (heap_alloc_new w3 _)) ?d2 ?d3 ?d4 ?d5 ?_))
        case d2 => intro u hu; rw [List.mem_singleton.1 hu]; rfl
        case d3 => unfold maxLen; omega
        case d4 => omega
        case d5 => have := HB2.out.size; simp; omega
        intro v0 w9 hown9 hgr9 _ hat9
        obtain ⟨A2, c2, rfl⟩ := own_form hown9
        have HO2 : Hid (w9.ownsRow w2.heap.size 3 1 (.slice A2 (j + 1) c2) (j + 1) ((symW ((bs s).take (j + 1))).map (Value.int .i64))) := by
          show World.ownsRow _ _ _ _ _ _ _
          rw [take_snoc HX.out, symW_snoc, List.map_append, ← HY.out]; exact hown9
        have HB3 : Hid (Below w2.heap.size w2 w9) := by
          have ht := Touch.ofGrown hgr9
          exact (bel_alloc HB2.out _).trans (ht.toBelow (by have := HB2.out.size; simp; omega) (fun k hk e => by have := (HO.out.lt k e.symm).1; omega))
        clear hown9 hgr9 hat9
        go_wp2_with fail
        go_roundw
        case rel => exact ⟨j + 1, A2, c2, rfl, by go_num, by omega, HP2, HO2, HB3⟩
        case measure => simp [intOf]; omega
      · have hyr : y < 0 := by rw [hy]; exact symI_neg.2 hp
        have HN : Hid (pathsB (bs s) = false) := pathsB_no HX.out hp
        clear hx hp hy hA
        go_wp2_with fail
        refine HBY.out.mono ?_
        rintro e w3 ⟨rfl, rfl⟩
        clear HBY
        go_wp2_with fail
        go_ret2
        exact bytesR_no HN.out HW.out
    · go_wp2_with fail
      go_ret2
      exact bytesR_yes (by omega) hj HP.out (HO.out.mono (by have := HW0.out.size; exact this)) HW.out

/-- the text of a word; none, if it is none -/
def textS (l : List Int) : ByteArray := if symsB 92 l then strOfNums (bytW l) else ByteArray.empty
def textV (l : List Int) : Value := .tuple #[.string (textS l), .bool (symsB 92 l)]
theorem textV_no {l : List Int} (h : symsB 92 l = false) : textV l = .tuple #[.string ByteArray.empty, .bool false] := by unfold textV textS; rw [h]; rfl
theorem textV_yes {l : List Int} (h : symsB 92 l = true) : textV l = .tuple #[.string (strOfNums (bytW l)), .bool true] := by unfold textV textS; rw [h]; rfl
theorem bytW_snoc (l : List Int) (c : Int) : bytW (l ++ [c]) = bytW l ++ [bytI c] := by simp [bytW]
theorem allS_at {S : ByteArray} (hS : S = allS) {x : Int} (h0 : 0 ≤ x) (h1 : x < 92) : ∀ h : x.toNat < S.size, ((S[x.toNat]'h).toNat : Int) = bytI x := by
  subst hS
  intro h
  obtain ⟨y, hy, _, hh⟩ := byte_at h
  rw [hh h]
  rw [allS_bs, upTo_at (by omega)] at hy
  have := Option.some.inj hy
  rw [← this, Int.toNat_of_nonneg h0]
set_option maxHeartbeats 4000000 in
set_option maxRecDepth 100000 in
theorem symFrom_any (l : List Int) (Al : Option Addr) (cl : Nat) (hl : l.length ≤ 100000) (w : World) (hr : WIn w l Al) : Calls Try.prog 110 #[.slice Al l.length cl] w (Ret (textV l) w) := by
  obtain ⟨i5, hi, hz, hs5, hb⟩ := info_parts Try.info5
  have HI := Lib.hid hi; have HZ := Lib.hid hz; have HS := Lib.hid hs5; have HB := Lib.hid hb
  have HR := Lib.hid hr
  clear hi hz hs5 hb hr
  go_enter Try.func110, Try.ntmps110
  go_wp2_with fail
  refine (symBytes_any w).mono ?_
  rintro e w1 ⟨rfl, hb1⟩
  have HW0 := Lib.hid hb1
  have HR1 := Lib.hid (HR.out.up hb1)
  obtain ⟨S, hS⟩ : ∃ S, S = allS := ⟨_, rfl⟩
  rw [← hS]
  have hsz : S.size = 92 := by rw [hS]; exact allS_size
  have HAT : Hid (∀ (x : Int), 0 ≤ x → x < 92 → ∀ h : x.toNat < S.size, ((S[x.toNat]'h).toNat : Int) = bytI x) := fun x h0 h1 => allS_at hS h0 h1
  clear hS hb1 HR
  go_wp2_with fail
  go_loopw [5, 7, 11] (fun sl _ ji wr => ∃ (j : Nat) (A : Option Addr) (c : Nat), sl = .slice A j c ∧ ji = .int .i64 j ∧ j ≤ l.length ∧ Hid (symsB 92 (l.take j) = true) ∧ Hid (wr.ownsRow w1.heap.size 5 1 (.slice A j c) j ((bytW (l.take j)).map (Value.int .u8))) ∧ Hid (Below w1.heap.size w1 wr)) (fun _ _ ji _ => l.length - (intOf ji).toNat)
  case atStart => exact ⟨0, none, 0, rfl, rfl, by omega, rfl, World.ownsRow_nil _ _ _ _, Below.refl _ _⟩
  case round =>
    obtain ⟨j, A, c, rfl, rfl, hj, HP, HO, HB2⟩ := hrel
    by_cases hlt : j < l.length
    · obtain ⟨b, o, x, rfl, hbl, hc, hx⟩ := (HR1.out.r.below HB2.out).int_at hlt
      have HX := Lib.hid hx
      have hglt : b < wr.heap.size := Nat.lt_of_lt_of_le hbl HB2.out.size
      clear hx hbl
      by_cases hp : 0 ≤ x ∧ x < 92
      · obtain ⟨hp0, hp1⟩ := hp
        have hat := HAT.out x hp0 hp1
        obtain ⟨y, hy⟩ : ∃ y, y = bytI x := ⟨_, rfl⟩
        rw [← hy] at hat
        have HP2 : Hid (symsB 92 (l.take (j + 1)) = true) := by show _ = _; rw [take_snoc HX.out, symsB_snoc, HP.out]; exact decide_eq_true ⟨hp0, hp1⟩
        have HY := Lib.hid hy
        clear hy
        have HOA := Lib.hid (HO.out.alloc (.cells #[.int .u8 y] 5))
        go_wp2_with (at_builtin; go_must (refine wpList_append_own_at _ rfl (.tmp 23) (.tmp 27) 102 rfl w1.heap.size 5 i5 (.int .u8 0) 1 1 Try.underlying102 HI.out HZ.out HS.out HB.out rfl (by omega) (.slice A j c) j ((bytW (l.take j)).map (Value.int .u8)) rfl HOA.out ⟨wr.heap.size, 0, none⟩ 1 1 [.int .u8 y] rfl rfl (World.news_of_block (cs := #[.int .u8 y]) (t := 5) (fr := (0, 0)) (heap_alloc_new wr _)) ?d2 ?d3 ?d4 ?d5 ?_))
        case d2 => intro u hu; rw [List.mem_singleton.1 hu]; rfl
        case d3 => unfold maxLen; omega
        case d4 => omega
        case d5 => have := HB2.out.size; simp; omega
        intro v0 w9 hown9 hgr9 _ hat9
        obtain ⟨A2, c2, rfl⟩ := own_form hown9
        have HO2 : Hid (w9.ownsRow w1.heap.size 5 1 (.slice A2 (j + 1) c2) (j + 1) ((bytW (l.take (j + 1))).map (Value.int .u8))) := by
          show World.ownsRow _ _ _ _ _ _ _
          rw [take_snoc HX.out, bytW_snoc, List.map_append, ← HY.out]; exact hown9
        have HB3 : Hid (Below w1.heap.size w1 w9) := by
          have ht := Touch.ofGrown hgr9
          exact (bel_alloc HB2.out _).trans (ht.toBelow (by have := HB2.out.size; simp; omega) (fun k hk e => by have := (HO.out.lt k e.symm).1; omega))
        clear hown9 hgr9 hat9 hat
        go_wp2_with fail
        go_roundw
        case rel => exact ⟨j + 1, A2, c2, rfl, by go_num, by omega, HP2, HO2, HB3⟩
        case measure => simp [intOf]; omega
      · have HN := Lib.hid (textV_no (symsB_no HX.out hp))
        by_cases hx0 : x < 0
        · clear hp
          go_wp2_with fail
          go_ret2
          exact ⟨by rw [HN.out]; rfl, bel_step HW0.out HB2.out⟩
        · have hx1 : 92 ≤ x := by omega
          clear hp
          go_wp2_with fail
          go_ret2
          exact ⟨by rw [HN.out]; rfl, bel_step HW0.out HB2.out⟩
    · have hall := HP.out
      rw [List.take_of_length_le (by omega)] at hall
      have HY := Lib.hid (textV_yes hall)
      have hcv := str_of_own HO.out
      rw [List.take_of_length_le (by omega)] at hcv
      clear hall
      go_wp2_with fail
      go_ret2
      exact ⟨by rw [HY.out]; rfl, bel_step HW0.out HB2.out⟩
/-- symbols among numbers -/
def okX (x : Int) : Bool := decide (0 ≤ x ∧ x < 92)
theorem okX_len {l : List Int} (h : (l.filter okX).length = l.length) : symsB 92 l = true ∧ l.filter okX = l := by
  have h2 := List.filter_eq_self.1 (List.filter_sublist.eq_of_length h)
  exact ⟨symsB_iff.2 fun x hx => of_decide_eq_true (h2 x hx), List.filter_eq_self.2 h2⟩
theorem okX_ne {l : List Int} (h : (l.filter okX).length ≠ l.length) : symsB 92 l = false := by
  rcases hb : symsB 92 l with _ | _
  · rfl
  · have h2 : l.filter okX = l := List.filter_eq_self.2 fun x hx => (decide_eq_true (symsB_iff.1 hb x hx) : okX x = true)
    exact absurd (by rw [h2]) h
/-- the row of bytes while the bytes are gone through -/
def rowTo (pre : List Int) (x k : Int) : List Int := pre ++ if okX x = true ∧ bytI x < k then [bytI x] else []
theorem rowTo_start (pre : List Int) (x : Int) : rowTo pre x 33 = pre := by
  unfold rowTo
  rw [if_neg, List.append_nil]
  rintro ⟨h1, h2⟩
  have := of_decide_eq_true h1
  have := bytI_rng this.1 this.2
  omega
theorem rowTo_end (pre : List Int) (x : Int) : rowTo pre x 127 = pre ++ (if okX x then [bytI x] else []) := by
  unfold rowTo
  by_cases h : okX x = true
  · have := of_decide_eq_true h
    have := bytI_rng this.1 this.2
    rw [if_pos ⟨h, by omega⟩, if_pos h]
  · rw [if_neg (fun h2 => h h2.1), if_neg h]
theorem rowTo_hit {pre : List Int} {x k : Int} (hk : 33 ≤ k ∧ k < 127) (h0 : 0 ≤ x) (h : symI k = x) : rowTo pre x (k + 1) = rowTo pre x k ++ [k] := by
  have hp : pathB k := by
    by_cases hp : pathB k
    · exact hp
    · have := symI_no hp; omega
  have hr := symI_rng hp
  have hx : okX x = true := decide_eq_true (by omega)
  have hb : bytI x = k := by rw [← h]; exact bytI_symI hp
  unfold rowTo
  rw [if_pos ⟨hx, by omega⟩, if_neg (by omega), hb, List.append_nil]
theorem rowTo_miss {pre : List Int} {x k : Int} (h : symI k ≠ x ∨ x < 0) : rowTo pre x (k + 1) = rowTo pre x k := by
  unfold rowTo
  by_cases hx : okX x = true
  · have hx' := of_decide_eq_true hx
    have hne : bytI x ≠ k := fun e => by
      have := symI_bytI hx'.1 hx'.2
      rw [e] at this
      omega
    by_cases h2 : bytI x < k
    · rw [if_pos ⟨hx, by omega⟩, if_pos ⟨hx, h2⟩]
    · rw [if_neg (fun h3 => by have := h3.2; omega), if_neg (fun h3 => h2 h3.2)]
  · rw [if_neg (fun h3 => hx h3.1), if_neg (fun h3 => hx h3.1)]
set_option maxHeartbeats 4000000 in
set_option maxRecDepth 100000 in
theorem refFrom_any (l : List Int) (Al : Option Addr) (cl : Nat) (hl : l.length ≤ 100000) (w : World) (hr : WIn w l Al) : Calls Try.prog 68 #[.slice Al l.length cl] w (Ret (textV l) w) := by
  obtain ⟨i5, hi, hz, hs5, hb⟩ := info_parts Try.info5
  have HI := Lib.hid hi; have HZ := Lib.hid hz; have HS := Lib.hid hs5; have HB := Lib.hid hb
  have HR := Lib.hid hr
  clear hi hz hs5 hb hr
  have HO0 : Hid ((w.alloc (.cells #[] 5)).ownsRow w.heap.size 5 1 (.slice (some ⟨w.heap.size, 0, none⟩) (bytW ((l.take 0).filter okX)).length 0) (bytW ((l.take 0).filter okX)).length ((bytW ((l.take 0).filter okX)).map (Value.int .u8))) := by
    have h := World.ownsRow_lit (base := w.heap.size) (e := 5) (size := 1) w #[] 0 (by omega) (by decide) rfl
    exact h
  go_enter Try.func68, Try.ntmps68
  go_wp2_with fail
  go_loopw [4, 6, 7, 11] (fun sl _ _ ji wr => ∃ (j : Nat) (L : List Int) (A : Option Addr) (c : Nat), sl = .slice A L.length c ∧ ji = .int .i64 j ∧ j ≤ l.length ∧ L.length ≤ j ∧ Hid (L = bytW ((l.take j).filter okX)) ∧ Hid (wr.ownsRow w.heap.size 5 1 (.slice A L.length c) L.length (L.map (Value.int .u8))) ∧ Hid (Below w.heap.size w wr)) (fun _ _ _ ji _ => l.length - (intOf ji).toNat)
  case atStart => exact ⟨0, _, _, 0, rfl, rfl, by omega, by simp [bytW], rfl, HO0, bel_new w _⟩
  case round =>
    clear HO0
    obtain ⟨j, L, A, c, rfl, rfl, hj, hL, HL, HO, HW⟩ := hrel
    by_cases hlt : j < l.length
    · obtain ⟨b, o, x, rfl, hbl, hc, hx⟩ := (HR.out.r.below HW.out).int_at hlt
      have HX := Lib.hid hx
      have hglt : b < wr.heap.size := Nat.lt_of_lt_of_le hbl HW.out.size
      clear hx hbl
      go_wp2_with fail
      clear hc hglt
      go_loopw [4, 7] (fun sl ki wi => ∃ (k : Int) (R : List Int) (A : Option Addr) (c : Nat), sl = .slice A R.length c ∧ ki = .int .u8 k ∧ 33 ≤ k ∧ k ≤ 127 ∧ R.length ≤ j + 1 ∧ Hid (R = rowTo L x k) ∧ Hid (wi.ownsRow w.heap.size 5 1 (.slice A R.length c) R.length (R.map (Value.int .u8))) ∧ Hid (Below w.heap.size w wi)) (fun _ ki _ => (127 - intOf ki).toNat)
      case atStart => exact ⟨33, L, A, c, rfl, rfl, by omega, by omega, by omega, (rowTo_start L x).symm, HO, HW⟩
      case round =>
        clear HO HW
        obtain ⟨k, R, A, c, rfl, rfl, hk1, hk2, hRl, HRR, HO, HW⟩ := hrel
        have v1 : k < 127 → IntKind.u8.wrap (k + 1) = k + 1 := fun h => by rw [IntKind.wrap_u8]; omega
        by_cases hk : k < 127
        · have v2 := v1 hk
          clear v1
          obtain ⟨y, hy⟩ : ∃ y, y = symI k := ⟨_, rfl⟩
          have HBY := Lib.hid (refByte_any k (by omega) (by omega) wr)
          rw [← hy] at HBY
          by_cases hyx : y = x
          · by_cases hx0 : 0 ≤ x
            · have bx : (y == x) = true := by simpa using hyx
              obtain ⟨R2, hR2⟩ : ∃ R2, R2 = R ++ [k] := ⟨_, rfl⟩
              have HR2 : Hid (R2 = rowTo L x (k + 1)) := by
                show _ = _
                rw [hR2, rowTo_hit ⟨hk1, hk⟩ hx0 (by rw [← hy, hyx]), ← HRR.out]
              have hR2l : R2.length = R.length + 1 := by rw [hR2]; simp
              have hR3 : R2.length ≤ j + 1 := by
                rw [HR2.out]
                unfold rowTo
                split
                · simp; omega
                · simp; omega
              have HR2e := Lib.hid hR2
              have HR2l := Lib.hid hR2l
              clear hy hyx hR2 hR2l
              go_wp2_with fail
              refine HBY.out.mono ?_
              rintro e w1 ⟨rfl, rfl⟩
              clear HBY
              have HOA := Lib.hid (HO.out.alloc (.cells #[.int .u8 k] 5))
              go_wp2_with (at_builtin; go_must (refine wpList_append_own_at _ rfl (.tmp 27) (.tmp 29) 102 rfl w.heap.size 5 i5 (.int .u8 0) 1 1 Try.underlying102 HI.out HZ.out HS.out HB.out rfl (by omega) (.slice A R.length c) R.length (R.map (Value.int .u8)) rfl HOA.out ⟨w1.heap.size, 0, none⟩ 1 1 [.int .u8 k] rfl rfl (World.news_of_block (cs := #[.int .u8 k]) (t := 5) (fr := (0, 0)) (heap_alloc_new w1 _)) ?d2 ?d3 ?d4 ?d5 ?_))
              case d2 => intro u hu; rw [List.mem_singleton.1 hu]; rfl
              case d3 => unfold maxLen; omega
              case d4 => omega
              case d5 => have := HW.out.size; simp; omega
              intro v0 w9 hown9 hgr9 _ hat9
              obtain ⟨A2, c2, rfl⟩ := own_form hown9
              have HO2 : Hid (w9.ownsRow w.heap.size 5 1 (.slice A2 R2.length c2) R2.length (R2.map (Value.int .u8))) := by
                show World.ownsRow _ _ _ _ _ _ _
                rw [HR2l.out, HR2e.out, List.map_append]; exact hown9
              have HW2 : Hid (Below w.heap.size w w9) := by
                have ht := Touch.ofGrown hgr9
                exact (bel_alloc HW.out _).trans (ht.toBelow (by have := HW.out.size; simp; omega) (fun k hk e => by have := (HO.out.lt k e.symm).1; omega))
              clear hown9 hgr9 hat9
              go_wp2_with fail
              go_roundw
              case rel => exact ⟨k + 1, R2, A2, c2, by rw [HR2l.out], rfl, by omega, by omega, hR3, HR2, HO2, HW2⟩
              case measure => simp [intOf]; omega
            · have bx : (y == x) = true := by simpa using hyx
              have HR2 : Hid (R = rowTo L x (k + 1)) := by
                show _ = _
                rw [rowTo_miss (.inr (by omega))]; exact HRR.out
              clear hy hyx
              go_wp2_with fail
              refine HBY.out.mono ?_
              rintro e w1 ⟨rfl, rfl⟩
              clear HBY
              go_wp2_with fail
              go_roundw
              case rel => exact ⟨k + 1, R, A, c, rfl, rfl, by omega, by omega, hRl, HR2, HO, HW⟩
              case measure => simp [intOf]; omega
          · have bx : (y == x) = false := by simpa using hyx
            have HR2 : Hid (R = rowTo L x (k + 1)) := by
              show _ = _
              rw [rowTo_miss (.inl (by rw [← hy]; exact hyx))]; exact HRR.out
            clear hy hyx
            go_wp2_with fail
            refine HBY.out.mono ?_
            rintro e w1 ⟨rfl, rfl⟩
            clear HBY
            go_wp2_with fail
            go_roundw
            case rel => exact ⟨k + 1, R, A, c, rfl, rfl, by omega, by omega, hRl, HR2, HO, HW⟩
            case measure => simp [intOf]; omega
        · clear v1
          obtain rfl : k = 127 := by omega
          have HL2 : Hid (R = bytW ((l.take (j + 1)).filter okX)) := by
            show _ = _
            rw [HRR.out, rowTo_end, HL.out, take_snoc HX.out, List.filter_append]
            unfold bytW
            rw [List.map_append]
            congr 1
            by_cases h : okX x = true
            · simp [h]
            · simp [h]
          go_wp2_with fail
          go_roundw
          case rel => exact ⟨j + 1, R, A, c, rfl, by go_num, by omega, hRl, HL2, HO, HW⟩
          case measure => simp [intOf]; omega
    · have hjl : j = l.length := by omega
      have hLe := HL.out
      rw [List.take_of_length_le (by omega)] at hLe
      have hLl : L.length = (l.filter okX).length := by rw [hLe]; simp [bytW]
      by_cases he : L.length = l.length
      · obtain ⟨h1, h2⟩ := okX_len (l := l) (by omega)
        have HY := Lib.hid (textV_yes h1)
        have hcv := str_of_own HO.out
        have HLE : Hid (L = bytW l) := by show _ = _; rw [hLe, h2]
        have be : ((L.length : Int) != (l.length : Int)) = false := by simp [he]
        clear h1 h2 hLe hLl he
        go_wp2_with fail
        go_ret2
        exact ⟨by rw [HY.out, HLE.out]; rfl, HW.out⟩
      · have HN := Lib.hid (textV_no (okX_ne (l := l) (by omega)))
        have be : ((L.length : Int) != (l.length : Int)) = true := bne_iff_ne.2 (by omega)
        clear hLe hLl he
        go_wp2_with fail
        go_ret2
        exact ⟨by rw [HN.out]; rfl, HW.out⟩
/-- the document's word of a text -/
def WordR (s : ByteArray) (w : World) (e : Ending) (w' : World) : Prop :=
  ∃ (A : Option Addr) (c : Nat), e = .returned (.slice A (wordL s).length c) ∧ Rd w' w'.heap.size A ((wordL s).map (Value.int .i64)) ∧ Below w.heap.size w w'
set_option maxHeartbeats 1000000 in
set_option maxRecDepth 100000 in
theorem word19_any (s : ByteArray) (hs : s.size ≤ 100000) (w : World) : Calls Try.prog 108 #[.string s] w (WordR s w) := by
  go_enter Try.func108, Try.ntmps108
  go_wp2_with fail
  refine (refBytes_any s hs w).mono ?_
  rintro e w1 ⟨A, c, rfl, hr, hb⟩
  have HR := Lib.hid hr; have HB := Lib.hid hb
  clear hr hb
  go_wp2_with fail
  go_ret
  exact ⟨A, c, rfl, HR.out, HB.out⟩
/-- a path, of however many bytes -/
def longB (s : ByteArray) : Bool := pathsB (bs s) && decide ((bs s)[0]? = some 47)
set_option maxHeartbeats 1000000 in
set_option maxRecDepth 100000 in
theorem long_any (s : ByteArray) (hs : s.size ≤ 100000) (w : World) : Calls Try.prog 69 #[.string s] w (Ret (.bool (longB s)) w) := by
  obtain ⟨b, hb⟩ : ∃ b, b = pathsB (bs s) := ⟨_, rfl⟩
  have HLB : Hid (longB s = (b && decide ((bs s)[0]? = some 47))) := by show _ = _; rw [hb]; rfl
  have HBB := Lib.hid hb
  clear hb
  go_enter Try.func69, Try.ntmps69
  go_wp2_with fail
  refine (refBytes_any s hs w).mono ?_
  rintro e w1 ⟨A, c, rfl, hr, hb⟩
  have HR := Lib.hid hr; have HB := Lib.hid hb
  rw [← HBB.out]
  clear hr hb
  cases b with
  | false =>
    go_wp2_with fail
    go_ret
    exact ⟨by rw [HLB.out]; rfl, HB.out⟩
  | true =>
    by_cases h0 : 0 < s.size
    · obtain ⟨x, hx, ⟨hx0, hx1⟩, hbx⟩ := byte_at h0
      obtain ⟨q, hq⟩ : ∃ q, q = (x == 47) := ⟨_, rfl⟩
      have hq2 := hq.symm
      have HQ : Hid (longB s = q) := by
        show _ = _
        rw [HLB.out, hx, hq]
        by_cases h47 : x = 47
        · subst h47; rfl
        · rw [decide_eq_false (fun e => h47 (Option.some.inj e)), beq_eq_false_iff_ne.2 h47]; rfl
      clear hx hq
      go_wp2_with fail
      go_ret
      exact ⟨by rw [HQ.out]; rfl, HB.out⟩
    · have HQ : Hid (longB s = false) := by
        show _ = _
        rw [HLB.out]
        have : (bs s)[0]? = none := List.getElem?_eq_none (by rw [bs_len]; omega)
        rw [this]; rfl
      go_wp2_with fail
      go_ret
      exact ⟨by rw [HQ.out]; rfl, HB.out⟩
end Go.Proofs.Ytmpcoclgcldclaa
