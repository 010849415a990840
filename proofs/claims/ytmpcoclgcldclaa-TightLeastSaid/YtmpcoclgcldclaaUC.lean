/- The walk of slices.DeleteFunc at []int, with any predicate that only reads, whatever the row holds meanwhile. -/
import Derived.Test.YtmpcoclgcldclaaA
import Derived.Test.YtmpcoclgcldclaaMap
import Derived.Test.YtmpcoclgcldclaaFam
import Derived.Lib.SliceRun
import Derived.BigQuiet
namespace Go.Proofs.Ytmpcoclgcldclaa
open Go.RowKit

/-- the value v comes back; the world is the same but for draws -/
def Drew (v : Value) (w : World) (e : Ending) (w' : World) : Prop := e = .returned v ∧ ∃ n, w' = w.drewN n
/-- the function value g answers p x, and only draws -/
def PredsD (g : FuncId) (cap : Array Value) (p : Int → Bool) (w : World) (xs : List Int) : Prop := ∀ x ∈ xs, Calls Try.prog g (#[.int .i64 x] ++ cap) w (Drew (.bool (p x)) w)
def SameW (w w' : World) : Prop := ∃ n, w' = w.drewN n
theorem SameW.refl (w : World) : SameW w w := ⟨0, rfl⟩
theorem SameW.drewN {w w' : World} (h : SameW w w') (n : Nat) : SameW w (w'.drewN n) := by
  obtain ⟨m, rfl⟩ := h
  exact ⟨m + n, by rw [World.drewN_drewN]⟩
theorem SameW.rd {w w' : World} {B : Nat} {A : Option Addr} {xs : List Value} (h : SameW w w') (hr : Rd w B A xs) : Rd w' B A xs := by
  obtain ⟨m, rfl⟩ := h
  exact hr.drewN m
theorem SameW.touch {w w' : World} {S : Nat → Prop} (h : SameW w w') : Touch S w w' := by
  obtain ⟨m, rfl⟩ := h
  exact (Touch.refl S w).drewN m

set_option maxHeartbeats 1000000 in
set_option maxRecDepth 100000 in
theorem indexFuncD (g : FuncId) (cap : Array Value) (p : Int → Bool) (w : World) (B : Nat) (A : Option Addr) (c : Nat) (xs : List Int)
    (hn2 : xs.length ≤ 9223372036854775807) (hr : Rd w B A (xs.map (Value.int .i64))) (hp : ∀ w', SameW w w' → PredsD g cap p w' xs)
    (eg : ∀ args w, (callFunc g args).run Try.prog w = .ok (.enter g args) w) :
    Calls Try.prog 112 #[.slice A xs.length c, .func (.func g) #[] cap] w (Drew (.int .i64 (idxP p xs)) w) := by
  have HP := Lib.hid hp; clear hp
  have HR := Lib.hid hr; clear hr
  go_enter Try.func112, Try.ntmps112
  go_wp2_with fail
  go_loopw [5, 8] (fun _ i wr => ∃ k : Nat, k ≤ xs.length ∧ i = .int .i64 k ∧ Hid ((xs.take k).any p = false) ∧ Hid (SameW w wr)) (fun _ i _ => xs.length - (intOf i).toNat)
  case atStart => exact ⟨0, Nat.zero_le _, rfl, rfl, SameW.refl w⟩
  case round =>
    obtain ⟨k, hk, rfl, HN, HS⟩ := hrel
    by_cases hlt : k < xs.length
    · obtain ⟨b, o, x, rfl, hb, hc, hx⟩ := (HS.out.rd HR.out).int_at hlt
      have hcall := HP.out _ HS.out x (List.mem_of_getElem? hx)
      have HC := Lib.hid hcall; clear hcall
      have HX := Lib.hid hx; clear hx
      go_wp2_with fail
      refine (HC.out).mono ?_
      rintro e w' ⟨rfl, n, rfl⟩
      have HS2 := Lib.hid (HS.out.drewN n)
      generalize hpx : p x = q
      have HPX := Lib.hid hpx; clear hpx
      cases q
      · go_wp2_with fail
        go_roundw
        case rel => exact ⟨k + 1, by omega, by go_num, take_any_succ HN.out HX.out HPX.out, HS2⟩
        case measure => simp [intOf]; omega
      · go_wp2_with fail
        go_ret
        exact ⟨by rw [idxP_hit HN.out HX.out HPX.out]; rfl, HS2.out⟩
    · go_wp2_with fail
      go_ret
      exact ⟨by rw [idxP_none (k := k) HN.out (by omega)]; rfl, HS.out⟩

/-- the row is cut -/
theorem own_cut1 {w : World} {base : Nat} {e : TypeId} {g n c m : Nat} {xs : List Value} (h : w.ownsRow base e 1 (.slice (some ⟨g, 0, none⟩) n c) n xs) (hm : m ≤ n) : w.ownsRow base e 1 (.slice (some ⟨g, 0, none⟩) m c) m (xs.take m) := by
  have hl := h.1
  refine ⟨by rw [List.length_take]; omega, ?_⟩
  rcases h.2 with ⟨h', _⟩ | ⟨g', cap, cur, h', hb, hh, hnc, hmx, hs, hx⟩
  · simp at h'
  · simp only [Value.slice.injEq, Option.some.injEq, Addr.mk.injEq, and_true, true_and] at h'
    obtain ⟨rfl, rfl⟩ := h'
    refine .inr ⟨g, c, cur, rfl, hb, hh, by omega, hmx, hs, ?_⟩
    rw [← hx, List.take_take]
    congr 1
    omega
/-- cells from i on have been written -/
theorem own_tail {base : Nat} {e : TypeId} {g n c i : Nat} : ∀ (vs : List Value) (o : Nat) (w : World) (xs : List Value), i ≤ o → w.ownsRow base e 1 (.slice (some ⟨g, 0, none⟩) n c) n xs →
    ∃ ys, (w.setCells g o vs).ownsRow base e 1 (.slice (some ⟨g, 0, none⟩) n c) n ys ∧ ys.take i = xs.take i ∧ Touch (fun k => k = g) w (w.setCells g o vs)
  | [], o, w, xs, _, h => ⟨xs, h, rfl, Touch.refl _ w⟩
  | v :: vs, o, w, xs, ho, h => by
    obtain ⟨ys, h1, h2, h3⟩ := own_tail (i := i) vs (o + 1) (w.setCell ⟨g, o, none⟩ v) (xs.set o v) (by omega) (h.stored o v).1
    refine ⟨ys, h1, ?_, ((Touch.refl (fun k => k = g) w).setCell (p := ⟨g, o, none⟩) (fun _ => rfl) v).trans h3⟩
    rw [h2]
    refine List.ext_getElem? fun j => ?_
    rw [List.getElem?_take, List.getElem?_take]
    split
    · rw [List.getElem?_set_ne (by omega)]
    · rfl
/-- i are kept of the first j -/
structure KeptI (q : Int → Bool) (xs ys : List Int) (i j : Nat) : Prop where
  len : ys.length = xs.length
  lt : i < j
  le : j ≤ xs.length
  low : ys.take i = (xs.take j).filter q
  high : ys.drop j = xs.drop j
theorem KeptI.at_ {q : Int → Bool} {xs ys : List Int} {i j : Nat} (h : KeptI q xs ys i j) : ys[j]? = xs[j]? := by
  have h1 := congrArg (·[0]?) h.high
  simpa using h1
theorem KeptI.skip {q : Int → Bool} {xs ys : List Int} {i j : Nat} {x : Int} (h : KeptI q xs ys i j) (hx : xs[j]? = some x) (hq : q x = false) : KeptI q xs ys i (j + 1) where
  len := h.len
  lt := by have := h.lt; omega
  le := (List.getElem?_eq_some_iff.1 hx).1
  low := by rw [List.take_add_one, hx, List.filter_append, ← h.low]; simp [hq]
  high := by rw [← List.drop_drop, h.high, List.drop_drop]
theorem KeptI.keep {q : Int → Bool} {xs ys : List Int} {i j : Nat} {x : Int} (h : KeptI q xs ys i j) (hx : xs[j]? = some x) (hq : q x = true) : KeptI q xs (ys.set i x) (i + 1) (j + 1) where
  len := by rw [List.length_set]; exact h.len
  lt := by have := h.lt; omega
  le := (List.getElem?_eq_some_iff.1 hx).1
  low := by
    have hl := h.lt
    have hj := (List.getElem?_eq_some_iff.1 hx).1
    rw [List.take_add_one (i := j), hx, List.filter_append, ← h.low]
    have e1 : (ys.set i x).take (i + 1) = ys.take i ++ [x] := by
      rw [List.take_add_one, List.getElem?_set_self (by rw [h.len]; omega)]
      congr 1
      refine List.ext_getElem? fun k => ?_
      rw [List.getElem?_take, List.getElem?_take]
      split
      · rw [List.getElem?_set_ne (by omega)]
      · rfl
    rw [e1]
    simp [hq]
  high := by
    rw [List.drop_set_of_lt (by have := h.lt; omega), ← List.drop_drop, h.high, List.drop_drop]
theorem KeptI.start {p : Int → Bool} {xs : List Int} (h : xs.any p = true) : KeptI (fun x => !p x) xs xs (xs.findIdx p) (xs.findIdx p + 1) := by
  have hl : xs.findIdx p < xs.length := List.findIdx_lt_length.2 (List.any_eq_true.1 h)
  refine ⟨rfl, by omega, by omega, ?_, rfl⟩
  have h1 : p (xs[xs.findIdx p]) = true := List.findIdx_getElem
  rw [List.take_add_one, List.getElem?_eq_getElem hl, List.filter_append]
  have e : (xs.take (xs.findIdx p)).filter (fun x => !p x) = xs.take (xs.findIdx p) := by
    rw [List.filter_eq_self]
    intro a ha
    obtain ⟨k, hk, rfl⟩ := List.getElem_of_mem ha
    rw [List.length_take] at hk
    rw [List.getElem_take]
    have := List.not_of_lt_findIdx (p := p) (xs := xs) (i := k) (by omega)
    simpa using this
  rw [e]
  simp [h1]
theorem KeptI.done {q : Int → Bool} {xs ys : List Int} {i : Nat} (h : KeptI q xs ys i xs.length) : ys.take i = xs.filter q ∧ (xs.filter q).length = i := by
  have h1 := h.low
  rw [List.take_length] at h1
  refine ⟨h1, ?_⟩
  rw [← h1, List.length_take]
  have := h.lt; have := h.len
  omega
theorem zeroAt3 : ∀ w, (zeroValue 3).run Try.prog w = .ok (.int .i64 0) w := fun _ => by kernel_rfl
/-- what is left of a row -/
def DelR (p : Int → Bool) (w : World) (base : Nat) (A : Option Addr) (c : Nat) (xs : List Int) (e : Ending) (w' : World) : Prop :=
  e = .returned (.slice A (xs.filter fun x => !p x).length c) ∧ w'.ownsRow base 3 1 (.slice A (xs.filter fun x => !p x).length c) (xs.filter fun x => !p x).length ((xs.filter fun x => !p x).map (Value.int .i64)) ∧ Touch (fun k => (Value.slice A xs.length c).ownBlock = some k) w w'

set_option maxHeartbeats 4000000 in
set_option maxRecDepth 100000 in
theorem deleteFunc_any (g : FuncId) (cap : Array Value) (p : Int → Bool) (w : World) (base : Nat) (A : Option Addr) (c : Nat) (xs : List Int)
    (hn2 : xs.length ≤ 1000000000000) (hown : w.ownsRow base 3 1 (.slice A xs.length c) xs.length (xs.map (Value.int .i64)))
    (hp : ∀ w', Touch (fun k => (Value.slice A xs.length c).ownBlock = some k) w w' → PredsD g cap p w' xs)
    (eg : ∀ args w, (callFunc g args).run Try.prog w = .ok (.enter g args) w) :
    Calls Try.prog 128 #[.slice A xs.length c, .func (.func g) #[] cap] w (DelR p w base A c xs) := by
  have C112 := Lib.hid (indexFuncD g cap p w w.heap.size A c xs (by omega) (Rd.of_own hown (Nat.le_refl _)) (fun w' hs => hp w' hs.touch) eg)
  have HP := Lib.hid hp; have HO := Lib.hid hown
  clear hp hown
  rcases hany : xs.any p with _ | _
  · have HF : Hid ((xs.filter fun x => !p x) = xs) := by
      show _ = _
      rw [List.filter_eq_self]
      intro a ha
      have := List.any_eq_false.1 hany a ha
      simpa using this
    have hi : idxP p xs = -1 := by unfold idxP; rw [if_neg (by simp [hany])]
    rw [hi] at C112
    clear hi hany
    go_enter Try.func128, Try.ntmps128
    go_wp2_with fail
    refine C112.out.mono ?_
    rintro e w1 ⟨rfl, n, rfl⟩
    go_wp2_with fail
    go_ret
    refine ⟨by rw [HF.out]; rfl, ?_, (Touch.refl _ w).drewN n⟩
    rw [HF.out]
    exact HO.out
  · have HK := Lib.hid (KeptI.start hany)
    have hi : idxP p xs = ((xs.findIdx p : Nat) : Int) := by unfold idxP; rw [if_pos hany]
    rw [hi] at C112
    have hpos : 0 < xs.length := by
      obtain ⟨x, hx, _⟩ := List.any_eq_true.1 hany
      exact List.length_pos_of_mem hx
    obtain ⟨gr, cr, hA, hgr, hgl⟩ := HO.out.form hpos
    obtain ⟨rfl, rfl⟩ : A = some ⟨gr, 0, none⟩ ∧ c = cr := by injection hA with h1 _ h3; exact ⟨h1, h3⟩
    have hcap : xs.length ≤ c := by
      rcases HO.out.2 with ⟨h', _⟩ | ⟨g', cap, cur, h', _, _, hnc, _⟩
      · simp at h'
      · simp only [Value.slice.injEq, Option.some.injEq, Addr.mk.injEq, and_true, true_and] at h'
        omega
    generalize xs.findIdx p = k0 at HK C112
    have hk0 := HK.out.lt
    have hk1 := HK.out.le
    have hne1 : ((k0 : Int) == -1) = false := beq_eq_false_iff_ne.2 (by omega)
    clear hi hany hA
    go_enter Try.func128, Try.ntmps128
    go_wp2_with fail
    refine C112.out.mono ?_
    rintro e w1 ⟨rfl, n, rfl⟩
    have HT := Lib.hid ((Touch.refl (fun k => (Value.slice (some ⟨gr, 0, none⟩) xs.length c).ownBlock = some k) w).drewN n)
    have HO1 : Hid ((w.drewN n).ownsRow base 3 1 (.slice (some ⟨gr, 0, none⟩) xs.length c) xs.length (xs.map (Value.int .i64))) := HO.out
    clear C112
    generalize w.drewN n = w1 at HT HO1 ⊢
    go_wp2_with fail
    go_loopw [5, 6, 7] (fun iI jI _ wr => ∃ (i j : Nat) (ys : List Int), iI = .int .i64 i ∧ jI = .int .i64 j ∧ Hid (KeptI (fun x => !p x) xs ys i j) ∧ Hid (wr.ownsRow base 3 1 (.slice (some ⟨gr, 0, none⟩) xs.length c) xs.length (ys.map (Value.int .i64))) ∧ Hid (Touch (fun k => (Value.slice (some ⟨gr, 0, none⟩) xs.length c).ownBlock = some k) w wr)) (fun _ jI _ _ => xs.length - (intOf jI).toNat)
    case atStart => exact ⟨k0, k0 + 1, xs, rfl, by go_num, HK, HO1, HT⟩
    case round =>
      clear HK HO1 HT hne1 hk0 hk1
      obtain ⟨i, j, ys, rfl, rfl, HK, HO, HT⟩ := hrel
      have hij := HK.out.lt
      have hjl := HK.out.le
      have hyl := HK.out.len
      have hgl2 : gr < wr.heap.size := (HO.out.lt gr rfl).2
      by_cases hlt : j < xs.length
      · obtain ⟨x, hx⟩ : ∃ x, xs[j]? = some x := ⟨_, List.getElem?_eq_getElem hlt⟩
        have hy := HK.out.at_
        rw [hx] at hy
        have c1 : wr.cell? ⟨gr, j, none⟩ = some (.int .i64 x) := by rw [HO.out.cellAt _ (by omega), List.getElem?_map, hy]; rfl
        obtain ⟨y, hy2⟩ : ∃ y, ys[i]? = some y := ⟨_, List.getElem?_eq_getElem (by omega)⟩
        have c2 : wr.cell? ⟨gr, i, none⟩ = some (.int .i64 y) := by rw [HO.out.cellAt _ (by omega), List.getElem?_map, hy2]; rfl
        have z2 : wr.frozen? ⟨gr, i, none⟩ = false := HO.out.frozenAt i
        have hcall := HP.out _ HT.out x (List.mem_of_getElem? hx)
        have HC := Lib.hid hcall; have HX := Lib.hid hx
        clear hcall hy hy2 hx
        go_wp2_with fail
        refine (HC.out).mono ?_
        rintro e w' ⟨rfl, n, rfl⟩
        have HT2 := Lib.hid (HT.out.drewN n)
        have HO2 : Hid ((wr.drewN n).ownsRow base 3 1 (.slice (some ⟨gr, 0, none⟩) xs.length c) xs.length (ys.map (Value.int .i64))) := HO.out
        generalize hpx : p x = q
        have HPX := Lib.hid hpx; clear hpx HC HO HT
        have c3 : (wr.drewN n).cell? ⟨gr, i, none⟩ = some (.int .i64 y) := c2
        have z3 : (wr.drewN n).frozen? ⟨gr, i, none⟩ = false := z2
        have hgl3 : gr < (wr.drewN n).heap.size := hgl2
        clear c1 c2 z2 hgl2
        generalize wr.drewN n = w2 at HT2 HO2 c3 z3 hgl3 ⊢
        cases q
        · have HK2 : Hid (KeptI (fun x => !p x) xs (ys.set i x) (i + 1) (j + 1)) := HK.out.keep HX.out (by simp [HPX.out])
          have HO3 : Hid ((w2.setCell ⟨gr, i, none⟩ (.int .i64 x)).ownsRow base 3 1 (.slice (some ⟨gr, 0, none⟩) xs.length c) xs.length ((ys.set i x).map (Value.int .i64))) := by
            show World.ownsRow _ _ _ _ _ _ _
            rw [List.map_set]
            exact (HO2.out.stored i _).1
          have HT3 := Lib.hid (HT2.out.setCell (p := ⟨gr, i, none⟩) (fun _ => rfl) (.int .i64 x))
          go_wp2_with fail
          go_roundw
          case rel => exact ⟨i + 1, j + 1, ys.set i x, by go_num, by go_num, HK2, HO3, HT3⟩
          case measure => simp [intOf]; omega
        · have HK2 : Hid (KeptI (fun x => !p x) xs ys i (j + 1)) := HK.out.skip HX.out (by simp [HPX.out])
          go_wp2_with fail
          go_roundw
          case rel => exact ⟨i, j + 1, ys, rfl, by go_num, HK2, HO2, HT2⟩
          case measure => simp [intOf]; omega
      · obtain rfl : j = xs.length := by omega
        obtain ⟨hd1, hd2⟩ := HK.out.done
        have hcl : ∀ ty, (Builtin.clear_ #[22] ty #[.slice (some ⟨gr, i, none⟩) (xs.length - i) (c - i)]).run Try.prog wr = .ok (.tuple #[]) (wr.setCells gr i (List.replicate (xs.length - i) (.int .i64 0))) :=
          fun ty => Lib.run_clear_slice wr _ _ ty _ Try.underlying22 zeroAt3 rfl rfl gr i _ _ (by omega) (fun t ht => by
            rw [HO.out.cellAt _ (by omega), List.getElem?_map, List.getElem?_eq_getElem (by omega)]; rfl) (fun t _ => HO.out.frozenAt _)
        obtain ⟨zs, ho, hz, ht⟩ := own_tail (i := i) (List.replicate (xs.length - i) (.int .i64 0)) i wr _ (Nat.le_refl _) HO.out
        have HOF : Hid ((wr.setCells gr i (List.replicate (xs.length - i) (.int .i64 0))).ownsRow base 3 1 (.slice (some ⟨gr, 0, none⟩) i c) i ((xs.filter fun x => !p x).map (Value.int .i64))) := by
          have h := own_cut1 ho (m := i) (by omega)
          rw [hz, ← List.map_take, hd1] at h
          exact h
        have HTF : Hid (Touch (fun k => (Value.slice (some ⟨gr, 0, none⟩) xs.length c).ownBlock = some k) w (wr.setCells gr i (List.replicate (xs.length - i) (.int .i64 0)))) :=
          HT.out.trans (ht.mono fun k _ e => by rw [e]; rfl)
        have HL := Lib.hid hd2
        clear hd1 hd2 ho hz ht HO HT
        go_wp2_with fail
        go_ret
        refine ⟨by rw [HL.out]; rfl, ?_, HTF.out⟩
        rw [HL.out]
        exact HOF.out
end Go.Proofs.Ytmpcoclgcldclaa
