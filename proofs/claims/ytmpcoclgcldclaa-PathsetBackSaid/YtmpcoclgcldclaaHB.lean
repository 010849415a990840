/- The walks of container/heap at short's stops. -/
import Derived.Test.YtmpcoclgcldclaaHA
namespace Go.Proofs.Ytmpcoclgcldclaa
open Go.RowKit
attribute [local go_sem ↓] Go.wp_at_zero Go.wp_at_succ

theorem less_at (A : Option Addr) (c : Nat) (T : List (Int × Int)) (i j : Nat) (x y : Int) (w : World) (hx : x = i) (hy : y = j) (hl : T.length ≤ 1000000000000) (hi : i < T.length) (hj : j < T.length) (hr : Rd2 w w.heap.size A T) :
    Calls Try.prog 151 #[.slice A T.length c, .int .i64 x, .int .i64 y] w fun e w' => (∃ b : Bool, e = .returned (.bool b)) ∧ Below w.heap.size w w' := by
  subst hx hy
  exact less_any A c T i j w hl hi hj hr
theorem swap_at (gr base c : Nat) (T : List (Int × Int)) (i j : Nat) (x y : Int) (p q : Int × Int) (w : World) (hx : x = i) (hy : y = j) (hl : T.length ≤ 1000000000000) (hi : T[i]? = some p) (hj : T[j]? = some q)
    (hr : w.ownsRow base 121 2 (.slice (some ⟨gr, 0, none⟩) T.length c) T.length (flat2 T)) :
    Calls Try.prog 152 #[.slice (some ⟨gr, 0, none⟩) T.length c, .int .i64 x, .int .i64 y] w fun e w' => e = .returned (.tuple #[]) ∧ w'.ownsRow base 121 2 (.slice (some ⟨gr, 0, none⟩) T.length c) T.length (flat2 ((T.set i q).set j p)) ∧ Touch (fun k => k = gr) w w' := by
  subst hx hy
  exact swap_any gr base c T i j p q w hl hi hj hr
set_option maxHeartbeats 16000000 in
set_option maxRecDepth 100000 in
theorem down_any (g base c : Nat) (A : Option Addr) (T : List (Int × Int)) (n : Nat) (w : World) (hl : T.length ≤ 1000000000000) (hn : n ≤ T.length) (h : Stops w g base A c T) :
    Calls Try.prog 127 #[.iface 119 (.pointer (some ⟨g, 0, none⟩)), .int .i64 0, .int .i64 n] w fun e w' => (∃ b : Bool, e = .returned (.bool b)) ∧ HStep w g base A c T w' := by
  have H := Lib.hid h
  clear h
  go_enter Try.func127, Try.ntmps127
  go_wp2_with fail
  go_loopw [7, 8, 9, 10] (fun i _ _ _ wr => ∃ (k : Nat) (T' : List (Int × Int)), i = .int .i64 k ∧ (k = 0 ∨ k < n) ∧ Hid (T'.length = T.length) ∧ Hid (T'.Perm T) ∧ Hid (Stops wr g base A c T') ∧ Hid (Touch (StopsS g A T.length c) w wr)) (fun i _ _ _ _ => n - (intOf i).toNat)
  case atStart => exact ⟨0, T, rfl, .inl rfl, rfl, List.Perm.refl _, H, Touch.refl _ _⟩
  case round =>
    obtain ⟨k, T', rfl, hk, HL, HP, HS, HT⟩ := hrel
    obtain ⟨b0, hg⟩ := HS.out.low
    have hk' : k ≤ n := by omega
    clear hk
    by_cases h1 : n ≤ 2 * k + 1
    · have h1' : (n : Int) ≤ 2 * (k : Int) + 1 := by omega
      go_wp2_with fail
      go_returns
      exact ⟨⟨_, rfl⟩, T', HP.out, HS.out, HT.out⟩
    · have h1' : ¬ (n : Int) ≤ 2 * (k : Int) + 1 := by omega
      have h1'' : ¬ 2 * (k : Int) + 1 < 0 := by omega
      by_cases h2 : 2 * k + 2 < n
      · have h2' : 2 * (k : Int) + 1 + 1 < n := by omega
        have m1 := HS.out.less
        go_wp2_with fail
        refine (less_at A c T' (2 * k + 2) (2 * k + 1) _ _ wr (by omega) (by omega) (by rw [HL.out]; omega) (by rw [HL.out]; omega) (by rw [HL.out]; omega) (Rd.of_own2 HS.out.row (Nat.le_refl _))).mono ?_
        rintro e w1 ⟨⟨b, rfl⟩, hb1⟩
        have HS1 := Lib.hid (HS.out.below hb1)
        have HT1 : Hid (Touch (StopsS g A T.length c) w w1) := HT.out.trans' (Touch.ofBelow hb1) (fun k hk hge => by have := HT.out.size; omega)
        obtain ⟨b1, hg1⟩ := HS1.out.low
        clear hb1 m1
        cases b
        · have m8 := HS1.out.less
          go_wp2_with fail
          refine (less_at A c T' (2 * k + 1) k _ _ w1 (by omega) (by omega) (by rw [HL.out]; omega) (by rw [HL.out]; omega) (by rw [HL.out]; omega) (Rd.of_own2 HS1.out.row (Nat.le_refl _))).mono ?_
          rintro e w5 ⟨⟨b5, rfl⟩, hb5⟩
          have HS5 := Lib.hid (HS1.out.below hb5)
          have HT5 : Hid (Touch (StopsS g A T.length c) w w5) := HT1.out.trans' (Touch.ofBelow hb5) (fun k hk hge => by have := HT1.out.size; omega)
          have m9 := HS5.out.swap
          obtain ⟨b51, hg5⟩ := HS5.out.low
          clear hb5 m8
          cases b5
          · go_wp2_with fail
            go_returns
            exact ⟨⟨_, rfl⟩, T', HP.out, HS5.out, HT5.out⟩
          · obtain ⟨p, hp⟩ : ∃ p, T'[k]? = some p := ⟨_, List.getElem?_eq_getElem (by rw [HL.out]; omega)⟩
            obtain ⟨q, hq⟩ : ∃ q, T'[2 * k + 1]? = some q := ⟨_, List.getElem?_eq_getElem (by rw [HL.out]; omega)⟩
            obtain ⟨gr, cr, hA, _, _⟩ := HS5.out.row.form (by rw [HL.out]; omega)
            obtain rfl : A = some ⟨gr, 0, none⟩ := by injection hA
            clear hA
            have HP' : Hid (((T'.set k q).set (2 * k + 1) p).Perm T) := (swap_perm hp hq).trans HP.out
            have HPq := Lib.hid hq; have HPp := Lib.hid hp
            clear hp hq
            go_wp2_with fail
            refine (swap_at gr base c T' k (2 * k + 1) _ _ p q w5 (by omega) (by omega) (by rw [HL.out]; omega) HPp.out HPq.out HS5.out.row).mono ?_
            rintro e w6 ⟨rfl, hr2, ht2⟩
            have hgne : g ≠ gr := fun e => HS5.out.ne (by rw [e]; rfl)
            have HS6 : Hid (Stops w6 g base (some ⟨gr, 0, none⟩) c ((T'.set k q).set (2 * k + 1) p)) := ⟨by have h := HS5.out.blk.touch ht2 hgne; simpa using h, by simpa using hr2⟩
            have HT6 : Hid (Touch (StopsS g (some ⟨gr, 0, none⟩) T.length c) w w6) := HT5.out.trans' ht2 (fun k hk e => .inr (by rw [e]; rfl))
            clear hr2 ht2 hgne
            go_wp2_with fail
            go_roundw
            case rel => exact ⟨2 * k + 1, (T'.set k q).set (2 * k + 1) p, by go_num, by omega, by simpa [Hid] using HL.out, HP', HS6, HT6⟩
            case measure => simp [intOf]; omega
        · have m8 := HS1.out.less
          go_wp2_with fail
          refine (less_at A c T' (2 * k + 2) k _ _ w1 (by omega) (by omega) (by rw [HL.out]; omega) (by rw [HL.out]; omega) (by rw [HL.out]; omega) (Rd.of_own2 HS1.out.row (Nat.le_refl _))).mono ?_
          rintro e w5 ⟨⟨b5, rfl⟩, hb5⟩
          have HS5 := Lib.hid (HS1.out.below hb5)
          have HT5 : Hid (Touch (StopsS g A T.length c) w w5) := HT1.out.trans' (Touch.ofBelow hb5) (fun k hk hge => by have := HT1.out.size; omega)
          have m9 := HS5.out.swap
          obtain ⟨b51, hg5⟩ := HS5.out.low
          clear hb5 m8
          cases b5
          · go_wp2_with fail
            go_returns
            exact ⟨⟨_, rfl⟩, T', HP.out, HS5.out, HT5.out⟩
          · obtain ⟨p, hp⟩ : ∃ p, T'[k]? = some p := ⟨_, List.getElem?_eq_getElem (by rw [HL.out]; omega)⟩
            obtain ⟨q, hq⟩ : ∃ q, T'[2 * k + 2]? = some q := ⟨_, List.getElem?_eq_getElem (by rw [HL.out]; omega)⟩
            obtain ⟨gr, cr, hA, _, _⟩ := HS5.out.row.form (by rw [HL.out]; omega)
            obtain rfl : A = some ⟨gr, 0, none⟩ := by injection hA
            clear hA
            have HP' : Hid (((T'.set k q).set (2 * k + 2) p).Perm T) := (swap_perm hp hq).trans HP.out
            have HPq := Lib.hid hq; have HPp := Lib.hid hp
            clear hp hq
            go_wp2_with fail
            refine (swap_at gr base c T' k (2 * k + 2) _ _ p q w5 (by omega) (by omega) (by rw [HL.out]; omega) HPp.out HPq.out HS5.out.row).mono ?_
            rintro e w6 ⟨rfl, hr2, ht2⟩
            have hgne : g ≠ gr := fun e => HS5.out.ne (by rw [e]; rfl)
            have HS6 : Hid (Stops w6 g base (some ⟨gr, 0, none⟩) c ((T'.set k q).set (2 * k + 2) p)) := ⟨by have h := HS5.out.blk.touch ht2 hgne; simpa using h, by simpa using hr2⟩
            have HT6 : Hid (Touch (StopsS g (some ⟨gr, 0, none⟩) T.length c) w w6) := HT5.out.trans' ht2 (fun k hk e => .inr (by rw [e]; rfl))
            clear hr2 ht2 hgne
            go_wp2_with fail
            go_roundw
            case rel => exact ⟨2 * k + 2, (T'.set k q).set (2 * k + 2) p, by go_num, by omega, by simpa [Hid] using HL.out, HP', HS6, HT6⟩
            case measure => simp [intOf]; omega
      · have h2' : ¬ 2 * (k : Int) + 1 + 1 < n := by omega
        have m8 := HS.out.less
        go_wp2_with fail
        refine (less_at A c T' (2 * k + 1) k _ _ wr (by omega) (by omega) (by rw [HL.out]; omega) (by rw [HL.out]; omega) (by rw [HL.out]; omega) (Rd.of_own2 HS.out.row (Nat.le_refl _))).mono ?_
        rintro e w5 ⟨⟨b5, rfl⟩, hb5⟩
        have HS5 := Lib.hid (HS.out.below hb5)
        have HT5 : Hid (Touch (StopsS g A T.length c) w w5) := HT.out.trans' (Touch.ofBelow hb5) (fun k hk hge => by have := HT.out.size; omega)
        have m9 := HS5.out.swap
        obtain ⟨b51, hg5⟩ := HS5.out.low
        clear hb5 m8
        cases b5
        · go_wp2_with fail
          go_returns
          exact ⟨⟨_, rfl⟩, T', HP.out, HS5.out, HT5.out⟩
        · obtain ⟨p, hp⟩ : ∃ p, T'[k]? = some p := ⟨_, List.getElem?_eq_getElem (by rw [HL.out]; omega)⟩
          obtain ⟨q, hq⟩ : ∃ q, T'[2 * k + 1]? = some q := ⟨_, List.getElem?_eq_getElem (by rw [HL.out]; omega)⟩
          obtain ⟨gr, cr, hA, _, _⟩ := HS5.out.row.form (by rw [HL.out]; omega)
          obtain rfl : A = some ⟨gr, 0, none⟩ := by injection hA
          clear hA
          have HP' : Hid (((T'.set k q).set (2 * k + 1) p).Perm T) := (swap_perm hp hq).trans HP.out
          have HPq := Lib.hid hq; have HPp := Lib.hid hp
          clear hp hq
          go_wp2_with fail
          refine (swap_at gr base c T' k (2 * k + 1) _ _ p q w5 (by omega) (by omega) (by rw [HL.out]; omega) HPp.out HPq.out HS5.out.row).mono ?_
          rintro e w6 ⟨rfl, hr2, ht2⟩
          have hgne : g ≠ gr := fun e => HS5.out.ne (by rw [e]; rfl)
          have HS6 : Hid (Stops w6 g base (some ⟨gr, 0, none⟩) c ((T'.set k q).set (2 * k + 1) p)) := ⟨by have h := HS5.out.blk.touch ht2 hgne; simpa using h, by simpa using hr2⟩
          have HT6 : Hid (Touch (StopsS g (some ⟨gr, 0, none⟩) T.length c) w w6) := HT5.out.trans' ht2 (fun k hk e => .inr (by rw [e]; rfl))
          clear hr2 ht2 hgne
          go_wp2_with fail
          go_roundw
          case rel => exact ⟨2 * k + 1, (T'.set k q).set (2 * k + 1) p, by go_num, by omega, by simpa [Hid] using HL.out, HP', HS6, HT6⟩
          case measure => simp [intOf]; omega
end Go.Proofs.Ytmpcoclgcldclaa
