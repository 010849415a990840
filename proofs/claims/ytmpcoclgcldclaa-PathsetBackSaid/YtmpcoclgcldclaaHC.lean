/- The walks of heap.Push and heap.Pop at short's stops. -/
import Derived.Test.YtmpcoclgcldclaaHB
namespace Go.Proofs.Ytmpcoclgcldclaa
open Go.RowKit
attribute [local go_sem ↓] Go.wp_at_zero Go.wp_at_succ

theorem up_at (g base c : Nat) (A : Option Addr) (T : List (Int × Int)) (j : Nat) (x : Int) (w : World) (hx : x = j) (hl : T.length ≤ 1000000000000) (hj : j < T.length) (h : Stops w g base A c T) :
    Calls Try.prog 126 #[.iface 119 (.pointer (some ⟨g, 0, none⟩)), .int .i64 x] w fun e w' => e = .returned (.tuple #[]) ∧ HStep w g base A c T w' := by
  subst hx; exact up_any g base c A T j w hl hj h
theorem down_at (g base c : Nat) (A : Option Addr) (T : List (Int × Int)) (n : Nat) (x : Int) (w : World) (hx : x = n) (hl : T.length ≤ 1000000000000) (hn : n ≤ T.length) (h : Stops w g base A c T) :
    Calls Try.prog 127 #[.iface 119 (.pointer (some ⟨g, 0, none⟩)), .int .i64 0, .int .i64 x] w fun e w' => (∃ b : Bool, e = .returned (.bool b)) ∧ HStep w g base A c T w' := by
  subst hx; exact down_any g base c A T n w hl hn h
set_option maxHeartbeats 4000000 in
set_option maxRecDepth 100000 in
theorem heapPush_any (g base c : Nat) (A : Option Addr) (T : List (Int × Int)) (x s : Int) (w : World) (hl : T.length ≤ 990000000000) (hbase : base ≤ w.heap.size) (h : Stops w g base A c T) :
    Calls Try.prog 116 #[.iface 119 (.pointer (some ⟨g, 0, none⟩)), .iface 121 (.agg #[.int .i64 x, .int .i64 s])] w fun e w' => e = .returned (.tuple #[]) ∧ ∃ A' c' T', T'.Perm ((x, s) :: T) ∧ Stops w' g base A' c' T' ∧ Touch (StopsS g A T.length c) w w' ∧
      ∀ k, (Value.slice A' T'.length c').ownBlock = some k → (Value.slice A T.length c).ownBlock = some k ∨ w.heap.size ≤ k := by
  have H := Lib.hid h; have HBS := Lib.hid hbase
  clear h hbase
  go_enter Try.func116, Try.ntmps116
  go_wp2_with fail
  refine (push_any g base c A T x s w (by omega) HBS.out H.out).mono ?_
  rintro e w1 ⟨rfl, A1, c1, hs1, ht1, ho1⟩
  have HS1 := Lib.hid hs1; have HT1 := Lib.hid ht1; have HO1 := Lib.hid ho1
  have m1 := hs1.len
  have HE : Hid ((T ++ [(x, s)]).length = T.length + 1) := by show _ = _; simp
  generalize hT1 : T ++ [(x, s)] = T1 at *
  have HTT := Lib.hid hT1
  have hlt : T1.length ≤ 990000000001 := by rw [HE.out]; omega
  have hpos : 1 ≤ T1.length := by rw [HE.out]; omega
  clear hs1 ht1 ho1 hT1
  go_wp2_with fail
  refine (len_any A1 T1.length c1 w1).mono ?_
  rintro e w' ⟨rfl, rfl⟩
  go_wp2_with fail
  refine (up_at g base c1 A1 T1 (T1.length - 1) _ w1 (by omega) (by omega) (by omega) HS1.out).mono ?_
  rintro e w2 ⟨rfl, T2, hp2, hs2, ht2⟩
  go_wp2_with fail
  go_returns
  have hlen := hp2.length_eq
  refine ⟨rfl, A1, c1, T2, ?_, hs2, ?_, ?_⟩
  · refine hp2.trans ?_
    rw [← HTT.out]
    exact List.perm_append_singleton (x, s) T
  · refine HT1.out.trans' ht2 fun k hk hS => ?_
    rcases hS with h1 | h1
    · exact .inl h1
    · rcases HO1.out k h1 with h2 | h2
      · exact .inr h2
      · omega
  · rw [hlen]; exact HO1.out

set_option maxHeartbeats 4000000 in
set_option maxRecDepth 100000 in
theorem heapPop_any (g base c : Nat) (A : Option Addr) (T : List (Int × Int)) (w : World) (hl : T.length ≤ 990000000000) (hn : 0 < T.length) (h : Stops w g base A c T) :
    Calls Try.prog 118 #[.iface 119 (.pointer (some ⟨g, 0, none⟩))] w fun e w' => ∃ p T', e = .returned (.iface 121 (.agg #[.int .i64 p.1, .int .i64 p.2])) ∧ T.Perm (p :: T') ∧ Stops w' g base A c T' ∧ Touch (StopsS g A T.length c) w w' := by
  have H := Lib.hid h
  have m1 := h.len
  obtain ⟨gr, cr, hA, _, _⟩ := h.row.form hn
  obtain rfl : A = some ⟨gr, 0, none⟩ := by injection hA
  clear h hA
  go_enter Try.func118, Try.ntmps118
  go_wp2_with fail
  refine (len_any (some ⟨gr, 0, none⟩) T.length c w).mono ?_
  rintro e w' ⟨rfl, rfl⟩
  have m2 := H.out.swap
  obtain ⟨p, hp⟩ : ∃ p, T[0]? = some p := ⟨_, List.getElem?_eq_getElem hn⟩
  obtain ⟨q, hq⟩ : ∃ q, T[T.length - 1]? = some q := ⟨_, List.getElem?_eq_getElem (by omega)⟩
  have HP := Lib.hid hp; have HQ := Lib.hid hq
  clear m1 hp hq
  go_wp2_with fail
  refine (swap_at gr base c T 0 (T.length - 1) _ _ p q w (by omega) (by omega) (by omega) HP.out HQ.out H.out.row).mono ?_
  rintro e w1 ⟨rfl, hr1, ht1⟩
  have hgne : g ≠ gr := fun e => H.out.ne (by rw [e]; rfl)
  have hlen1 : ((T.set 0 q).set (T.length - 1) p).length = T.length := by simp
  have hperm1 : ((T.set 0 q).set (T.length - 1) p).Perm T := swap_perm HP.out HQ.out
  generalize hT1 : (T.set 0 q).set (T.length - 1) p = T1 at *
  have HS1 : Hid (Stops w1 g base (some ⟨gr, 0, none⟩) c T1) := ⟨by rw [hlen1]; exact H.out.blk.touch ht1 hgne, by rw [hlen1]; exact hr1⟩
  have HT1 : Hid (Touch (StopsS g (some ⟨gr, 0, none⟩) T.length c) w w1) := ht1.mono (fun k _ e => .inr (by rw [e]; rfl))
  have HL1 := Lib.hid hlen1; have HP1 := Lib.hid hperm1
  clear hr1 ht1 hgne hlen1 hperm1 hT1 m2
  go_wp2_with fail
  refine (down_at g base c (some ⟨gr, 0, none⟩) T1 (T.length - 1) _ w1 (by omega) (by rw [HL1.out]; omega) (by rw [HL1.out]; omega) HS1.out).mono ?_
  rintro e w2 ⟨⟨b, rfl⟩, T2, hp2, hs2, ht2⟩
  have hl2 := hp2.length_eq
  rw [HL1.out] at hl2 ht2
  have HS2 := Lib.hid hs2
  have HT2 : Hid (Touch (StopsS g (some ⟨gr, 0, none⟩) T.length c) w w2) := HT1.out.trans ht2
  have HP2 : Hid (T2.Perm T) := hp2.trans HP1.out
  have HL2 := Lib.hid hl2
  obtain ⟨r, hr⟩ : ∃ r, T2.getLast? = some r := by
    cases hg : T2.getLast? with
    | none => rw [List.getLast?_eq_none_iff] at hg; subst hg; simp at hl2; omega
    | some r => exact ⟨r, rfl⟩
  have HR := Lib.hid hr
  clear hp2 hs2 ht2 hl2 hr
  go_wp2_with fail
  refine (pop_any g base c (some ⟨gr, 0, none⟩) T2 r w2 (by rw [HL2.out]; omega) HR.out HS2.out).mono ?_
  rintro e w3 ⟨rfl, hs3, ht3⟩
  go_wp2_with fail
  go_ret
  exact ⟨r, T2.dropLast, rfl, HP2.out.symm.trans (perm_dropLast HR.out), hs3, HT2.out.trans' ht3 (fun k _ e => .inl e)⟩
end Go.Proofs.Ytmpcoclgcldclaa
