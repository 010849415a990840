/- The walks of short's stops: the methods that a heap asks for. -/
import Derived.Test.YtmpcoclgcldclaaS
import Derived.Test.YtmpcoclgcldclaaC5
import Derived.Test.YtmpcoclgcldclaaG
import Derived.Handy
namespace Go.Proofs.Ytmpcoclgcldclaa
open Go.RowKit
attribute [local go_sem ↓] Go.wp_at_zero Go.wp_at_succ

/-- the variable g holds these stops, in a row of the call's own -/
structure Stops (w : World) (g base : Nat) (A : Option Addr) (c : Nat) (T : List (Int × Int)) : Prop where
  blk : Blk w g 117 #[.slice A T.length c]
  row : w.ownsRow base 121 2 (.slice A T.length c) T.length (flat2 T)
theorem flat2_set : ∀ (T : List (Int × Int)) (i : Nat) (q : Int × Int), flat2 (T.set i q) = ((flat2 T).set (2 * i) (.int .i64 q.1)).set (2 * i + 1) (.int .i64 q.2)
  | [], i, q => by simp [flat2]
  | p :: T, 0, q => rfl
  | p :: T, i + 1, q => by
    have ih := flat2_set T i q
    have e : ∀ (r : Int × Int) (L : List (Int × Int)), flat2 (r :: L) = .int .i64 r.1 :: .int .i64 r.2 :: flat2 L := fun _ _ => rfl
    rw [List.set_cons_succ, e, ih, e, show 2 * (i + 1) = 2 * i + 1 + 1 by omega]
    rfl

set_option maxHeartbeats 1000000 in
set_option maxRecDepth 100000 in
theorem len_any (A : Option Addr) (n c : Nat) (w : World) : Calls Try.prog 150 #[.slice A n c] w fun e w' => e = .returned (.int .i64 n) ∧ w = w' := by
  go_enter Try.func150, Try.ntmps150
  go_wp2_with fail
  go_ret
  exact ⟨rfl, rfl⟩

set_option maxHeartbeats 2000000 in
set_option maxRecDepth 100000 in
theorem less_any (A : Option Addr) (c : Nat) (T : List (Int × Int)) (i j : Nat) (w : World) (hl : T.length ≤ 1000000000000) (hi : i < T.length) (hj : j < T.length) (hr : Rd2 w w.heap.size A T) :
    Calls Try.prog 151 #[.slice A T.length c, .int .i64 i, .int .i64 j] w fun e w' => (∃ b : Bool, e = .returned (.bool b)) ∧ Below w.heap.size w w' := by
  obtain ⟨b, o, p, rfl, hb, c1, c2, hp⟩ := hr.at_ hi
  obtain ⟨b', o', q, hA, hb', d1, d2, hq⟩ := hr.at_ hj
  obtain ⟨rfl, rfl⟩ : b = b' ∧ o = o' := by simpa using hA
  clear hA hb' hr hp hq
  go_enter Try.func151, Try.ntmps151
  go_wp2_with fail
  go_region
  go_wp2_with fail
  go_ret
  exact ⟨⟨_, rfl⟩, (Below.refl _ _).drew⟩

theorem own_two {w : World} {base e gr n c : Nat} {xs : List Value} (h : w.ownsRow base e 2 (.slice (some ⟨gr, 0, none⟩) n c) n xs) (i : Nat) (a b : Value) :
    ((w.setCell ⟨gr, i * 2, none⟩ a).setCell ⟨gr, i * 2 + 1, none⟩ b).ownsRow base e 2 (.slice (some ⟨gr, 0, none⟩) n c) n ((xs.set (2 * i) a).set (2 * i + 1) b) := by
  have h1 := ((h.stored (i * 2) a).1.stored (i * 2 + 1) b).1
  rw [Nat.mul_comm 2 i]
  exact h1
theorem touch_two (w : World) (gr i : Nat) (a b : Value) : Touch (fun k => k = gr) w ((w.setCell ⟨gr, i * 2, none⟩ a).setCell ⟨gr, i * 2 + 1, none⟩ b) :=
  ((Touch.refl (fun k => k = gr) w).setCell (p := ⟨gr, i * 2, none⟩) (fun _ => rfl) a).setCell (p := ⟨gr, i * 2 + 1, none⟩) (fun _ => rfl) b
theorem Rd.of_own2 {w : World} {base B : Nat} {e : TypeId} {A : Option Addr} {n c : Nat} {L : List (Int × Int)} (h : w.ownsRow base e 2 (.slice A n c) n (flat2 L)) (hB : w.heap.size ≤ B) : Rd2 w B A L := by
  intro hl
  have hn : 0 < n := by have := h.1; omega
  rcases h.2 with ⟨h0, h1⟩ | ⟨g, cap, cur, hv, hb, hh, hnc, hm, hs, hx⟩
  · omega
  · have hA : A = some ⟨g, 0, none⟩ := by injection hv
    refine ⟨g, 0, hA, Nat.lt_of_lt_of_le (lt_of_heap hh) hB, fun j u hu => ?_⟩
    rw [cell_of_row w g _ cur e (0, 0) hh, Nat.zero_add, ← hu, ← hx, List.getElem?_take_of_lt]
    · simp
    · have := (List.getElem?_eq_some_iff.1 hu).1
      have := h.1
      omega
theorem swap_end {w : World} {base gr c : Nat} {T : List (Int × Int)} (hr : w.ownsRow base 121 2 (.slice (some ⟨gr, 0, none⟩) T.length c) T.length (flat2 T)) (i j : Nat) (p q : Int × Int) :
    (((((w.setCell ⟨gr, i * 2, none⟩ (.int .i64 q.1)).setCell ⟨gr, i * 2 + 1, none⟩ (.int .i64 q.2)).setCell ⟨gr, j * 2, none⟩ (.int .i64 p.1)).setCell ⟨gr, j * 2 + 1, none⟩ (.int .i64 p.2)).drew).ownsRow base 121 2 (.slice (some ⟨gr, 0, none⟩) T.length c) T.length (flat2 ((T.set i q).set j p)) ∧
    Touch (fun k => k = gr) w (((((w.setCell ⟨gr, i * 2, none⟩ (.int .i64 q.1)).setCell ⟨gr, i * 2 + 1, none⟩ (.int .i64 q.2)).setCell ⟨gr, j * 2, none⟩ (.int .i64 p.1)).setCell ⟨gr, j * 2 + 1, none⟩ (.int .i64 p.2)).drew) := by
  constructor
  · rw [flat2_set, flat2_set]
    exact own_two (own_two hr i _ _) j _ _
  · exact ((touch_two w gr i _ _).trans (touch_two _ gr j _ _)).drew
set_option maxHeartbeats 4000000 in
set_option maxRecDepth 100000 in
theorem swap_any (gr base c : Nat) (T : List (Int × Int)) (i j : Nat) (p q : Int × Int) (w : World) (hl : T.length ≤ 1000000000000) (hi : T[i]? = some p) (hj : T[j]? = some q)
    (hr : w.ownsRow base 121 2 (.slice (some ⟨gr, 0, none⟩) T.length c) T.length (flat2 T)) :
    Calls Try.prog 152 #[.slice (some ⟨gr, 0, none⟩) T.length c, .int .i64 i, .int .i64 j] w fun e w' => e = .returned (.tuple #[]) ∧ w'.ownsRow base 121 2 (.slice (some ⟨gr, 0, none⟩) T.length c) T.length (flat2 ((T.set i q).set j p)) ∧ Touch (fun k => k = gr) w w' := by
  have hil := (List.getElem?_eq_some_iff.1 hi).1
  have hjl := (List.getElem?_eq_some_iff.1 hj).1
  obtain ⟨f1, f2⟩ := flat2_at T i p hi
  obtain ⟨f3, f4⟩ := flat2_at T j q hj
  have c1 : w.cell? ⟨gr, i * 2, none⟩ = some (.int .i64 p.1) := by rw [hr.cellAt _ (by omega), Nat.mul_comm, f1]
  have c2 : w.cell? ⟨gr, i * 2 + 1, none⟩ = some (.int .i64 p.2) := by rw [hr.cellAt _ (by omega), Nat.mul_comm, f2]
  have d1 : w.cell? ⟨gr, j * 2, none⟩ = some (.int .i64 q.1) := by rw [hr.cellAt _ (by omega), Nat.mul_comm, f3]
  have d2 : w.cell? ⟨gr, j * 2 + 1, none⟩ = some (.int .i64 q.2) := by rw [hr.cellAt _ (by omega), Nat.mul_comm, f4]
  have z1 : w.frozen? ⟨gr, i * 2, none⟩ = false := hr.frozenAt _
  have z2 : w.frozen? ⟨gr, i * 2 + 1, none⟩ = false := hr.frozenAt _
  have z3 : w.frozen? ⟨gr, j * 2, none⟩ = false := hr.frozenAt _
  have z4 : w.frozen? ⟨gr, j * 2 + 1, none⟩ = false := hr.frozenAt _
  have HR := Lib.hid hr
  clear hr f1 f2 f3 f4
  by_cases hij : i = j
  · subst hij
    obtain rfl : p = q := by rw [hi] at hj; exact Option.some.inj hj
    clear hi hj
    have n1 : ¬ i * 2 = i * 2 + 1 := by omega
    have n2 : ¬ i * 2 + 1 = i * 2 := by omega
    go_enter Try.func152, Try.ntmps152
    go_wp2_with fail
    go_region
    go_wp2_with fail
    go_returns
    exact ⟨rfl, swap_end HR.out _ _ _ _⟩
  · clear hi hj
    have n1 : ¬ i * 2 = j * 2 := by omega
    have n2 : ¬ j * 2 = i * 2 := by omega
    have n3 : ¬ i * 2 + 1 = j * 2 := by omega
    have n4 : ¬ j * 2 = i * 2 + 1 := by omega
    have n5 : ¬ i * 2 = j * 2 + 1 := by omega
    have n6 : ¬ j * 2 + 1 = i * 2 := by omega
    have n7 : ¬ i = j := hij
    have n8 : ¬ j = i := fun e => hij e.symm
    go_enter Try.func152, Try.ntmps152
    go_wp2_with fail
    go_region
    go_wp2_with fail
    go_returns
    exact ⟨rfl, swap_end HR.out _ _ _ _⟩

theorem own_cut {w : World} {base e gr c : Nat} {T : List (Int × Int)} (h : w.ownsRow base e 2 (.slice (some ⟨gr, 0, none⟩) T.length c) T.length (flat2 T)) : w.ownsRow base e 2 (.slice (some ⟨gr, 0, none⟩) T.dropLast.length c) T.dropLast.length (flat2 T.dropLast) := by
  refine ⟨by rw [flat2_length], ?_⟩
  rcases h.2 with ⟨h', _⟩ | ⟨g', cap, cur, h', hb, hh, hnc, hm, hs, hx⟩
  · simp at h'
  · simp only [Value.slice.injEq, Option.some.injEq, Addr.mk.injEq, and_true, true_and] at h'
    obtain ⟨rfl, rfl⟩ := h'
    refine .inr ⟨gr, c, cur, rfl, hb, hh, by rw [List.length_dropLast]; omega, hm, hs, ?_⟩
    have e1 : flat2 T.dropLast = (flat2 T).take (T.dropLast.length * 2) := by
      rcases List.eq_nil_or_concat T with rfl | ⟨L, p, rfl⟩
      · rfl
      · rw [List.concat_eq_append, List.dropLast_concat, flat2_append, List.take_append_of_le_length (by rw [flat2_length]; omega), List.take_of_length_le (by rw [flat2_length]; omega)]
    rw [e1, ← hx, List.take_take]
    congr 1
    rw [List.length_dropLast]
    omega

theorem pop_end {w : World} {g base gr c : Nat} {T : List (Int × Int)} (h : Stops w g base (some ⟨gr, 0, none⟩) c T) (a b : Value) :
    Stops ((w.setCell ⟨g, 0, none⟩ (.slice (some ⟨gr, 0, none⟩) (T.length - 1) c)).alloc (.cells #[a, b] 121)).drew.drew g base (some ⟨gr, 0, none⟩) c T.dropLast ∧
    Touch (fun k => k = g) w ((w.setCell ⟨g, 0, none⟩ (.slice (some ⟨gr, 0, none⟩) (T.length - 1) c)).alloc (.cells #[a, b] 121)).drew.drew := by
  have e : T.dropLast.length = T.length - 1 := List.length_dropLast
  have hne : (Value.slice (some ⟨gr, 0, none⟩) T.length c).ownBlock ≠ some g := own_ne_blk h.row h.blk (by decide)
  refine ⟨⟨?_, ?_⟩, ?_⟩
  · have h1 := (h.blk.set_ 0 (.slice (some ⟨gr, 0, none⟩) (T.length - 1) c)).alloc (.cells #[a, b] 121)
    rw [e]
    exact h1
  · exact (ownsRow_setCell_other (a := ⟨g, 0, none⟩) (own_cut h.row) hne _).alloc _
  · exact ((((Touch.refl (fun k => k = g) w).setCell (p := ⟨g, 0, none⟩) (fun _ => rfl) _).alloc _).drew).drew

set_option maxHeartbeats 4000000 in
set_option maxRecDepth 100000 in
theorem pop_any (g base c : Nat) (A : Option Addr) (T : List (Int × Int)) (p : Int × Int) (w : World) (hl : T.length ≤ 1000000000000) (hp : T.getLast? = some p) (h : Stops w g base A c T) :
    Calls Try.prog 153 #[.pointer (some ⟨g, 0, none⟩)] w fun e w' => e = .returned (.iface 121 (.agg #[.int .i64 p.1, .int .i64 p.2])) ∧ Stops w' g base A c T.dropLast ∧ Touch (fun k => k = g) w w' := by
  have hne : 0 < T.length := by
    rcases List.eq_nil_or_concat T with rfl | ⟨L, q, rfl⟩
    · simp at hp
    · simp
  have hp' : T[T.length - 1]? = some p := by rw [List.getLast?_eq_getElem?] at hp; exact hp
  obtain ⟨gr, cr, hA, hgr, hgl⟩ := h.row.form hne
  obtain rfl : A = some ⟨gr, 0, none⟩ := by injection hA
  clear hA
  obtain ⟨f1, f2⟩ := flat2_at T _ p hp'
  have c1 : w.cell? ⟨gr, (T.length - 1) * 2, none⟩ = some (.int .i64 p.1) := by rw [h.row.cellAt _ (by omega), Nat.mul_comm, f1]
  have c2 : w.cell? ⟨gr, (T.length - 1) * 2 + 1, none⟩ = some (.int .i64 p.2) := by rw [h.row.cellAt _ (by omega), Nat.mul_comm, f2]
  have b0 : w.cell? ⟨g, 0, none⟩ = some (.slice (some ⟨gr, 0, none⟩) T.length c) := by rw [h.blk.cell]; rfl
  have z0 : w.frozen? ⟨g, 0, none⟩ = false := h.blk.frozen 0
  have hgl' : g < w.heap.size := h.blk.lt
  have hk : ((T.length : Int) - 1).toNat = T.length - 1 := by omega
  have hcap : T.length ≤ c := by
    rcases h.row.2 with ⟨h', _⟩ | ⟨g', cap, cur, h', _, _, hnc, _⟩
    · simp at h'
    · simp only [Value.slice.injEq, Option.some.injEq, Addr.mk.injEq, and_true, true_and] at h'
      omega
  have H := Lib.hid h
  clear h hp hp' f1 f2
  go_enter Try.func153, Try.ntmps153
  go_wp2_with fail
  go_region
  go_wp2_with fail
  go_region
  go_wp2_with fail
  go_returns
  exact ⟨rfl, pop_end H.out _ _⟩

theorem Try.info121 : (Try.prog.info? 121).map (fun i => (i.zero, i.size, i.bytes)) = some (some (.agg #[.int .i64 0, .int .i64 0]), 2, 16) := by kernel_rfl
/-- what a change of the stops may turn -/
def StopsS (g : Nat) (A : Option Addr) (n c : Nat) (k : Nat) : Prop := k = g ∨ (Value.slice A n c).ownBlock = some k
theorem Stops.ne {w : World} {g base : Nat} {A : Option Addr} {c : Nat} {T : List (Int × Int)} (h : Stops w g base A c T) : (Value.slice A T.length c).ownBlock ≠ some g := own_ne_blk h.row h.blk (by decide)
theorem Stops.touch {w w' : World} {g base : Nat} {A : Option Addr} {c : Nat} {T : List (Int × Int)} {S : Nat → Prop} (h : Stops w g base A c T) (ht : Touch S w w') (hg : ¬ S g) (hr : ∀ k, (Value.slice A T.length c).ownBlock = some k → ¬ S k) : Stops w' g base A c T :=
  ⟨h.blk.touch ht hg, own_touch h.row ht hr⟩
theorem Stops.alloc {w : World} {g base : Nat} {A : Option Addr} {c : Nat} {T : List (Int × Int)} (h : Stops w g base A c T) (o : Obj) : Stops (w.alloc o) g base A c T := ⟨h.blk.alloc o, h.row.alloc o⟩
theorem Stops.drew {w : World} {g base : Nat} {A : Option Addr} {c : Nat} {T : List (Int × Int)} (h : Stops w g base A c T) : Stops w.drew g base A c T := ⟨h.blk, h.row⟩
theorem Stops.below {w w' : World} {g base : Nat} {A : Option Addr} {c : Nat} {T : List (Int × Int)} (h : Stops w g base A c T) (hb : Below w.heap.size w w') : Stops w' g base A c T := ⟨blk_below h.blk hb, own_below h.row hb⟩

theorem push_end {w w3 : World} {g base gg cap c : Nat} {A : Option Addr} {T : List (Int × Int)} (h : Stops w g base A c T) (o : Obj) (x s : Int)
    (ho : w3.ownsRow base 121 2 (.slice (some ⟨gg, 0, none⟩) (T.length + 1) cap) (T.length + 1) (flat2 T ++ [.int .i64 x, .int .i64 s])) (hg : (w.alloc o).drew.grownBy w3 (Value.slice A T.length c).ownBlock)
    (hat : (Value.slice A T.length c).ownBlock = some gg ∨ gg = (w.alloc o).drew.heap.size) :
    ∃ A' c', Stops (w3.setCell ⟨g, 0, none⟩ (.slice (some ⟨gg, 0, none⟩) (T.length + 1) cap)) g base A' c' (T ++ [(x, s)]) ∧ Touch (StopsS g A T.length c) w (w3.setCell ⟨g, 0, none⟩ (.slice (some ⟨gg, 0, none⟩) (T.length + 1) cap)) ∧
      ∀ k, (Value.slice A' (T ++ [(x, s)]).length c').ownBlock = some k → (Value.slice A T.length c).ownBlock = some k ∨ w.heap.size ≤ k := by
  have e : (T ++ [(x, s)]).length = T.length + 1 := by simp
  have hb : Blk w3 g 117 #[.slice A T.length c] := (h.blk.alloc o).drew.grown hg (fun e => h.ne e.symm)
  refine ⟨some ⟨gg, 0, none⟩, cap, ⟨?_, ?_⟩, ?_, ?_⟩
  · rw [e]; exact hb.set_ 0 _
  · rw [e, flat2_append]
    exact ownsRow_setCell_other (a := ⟨g, 0, none⟩) ho (own_ne_blk ho hb (by decide)) _
  · exact (((((Touch.refl (StopsS g A T.length c) w).alloc o).drew).grown hg (fun k hk _ => .inr hk)).setCell (p := ⟨g, 0, none⟩) (fun _ => .inl rfl) _)
  · intro k hk
    have : gg = k := by simpa [Value.ownBlock] using hk
    subst this
    rcases hat with h1 | h1
    · exact .inl h1
    · right
      rw [h1]
      show w.heap.size ≤ (w.alloc o).heap.size
      simp
theorem Try.assert121 (x s : Int) (w : World) : (Instr.typeAssert (.iface 121 (.agg #[.int .i64 x, .int .i64 s])) 20 121 false).run Try.prog w = .ok (.agg #[.int .i64 x, .int .i64 s]) w := by kernel_rfl
set_option maxHeartbeats 4000000 in
set_option maxRecDepth 100000 in
theorem push_any (g base c : Nat) (A : Option Addr) (T : List (Int × Int)) (x s : Int) (w : World) (hl : T.length ≤ 1000000000000) (hbase : base ≤ w.heap.size) (h : Stops w g base A c T) :
    Calls Try.prog 154 #[.pointer (some ⟨g, 0, none⟩), .iface 121 (.agg #[.int .i64 x, .int .i64 s])] w fun e w' => e = .returned (.tuple #[]) ∧ ∃ A' c', Stops w' g base A' c' (T ++ [(x, s)]) ∧ Touch (StopsS g A T.length c) w w' ∧
      ∀ k, (Value.slice A' (T ++ [(x, s)]).length c').ownBlock = some k → (Value.slice A T.length c).ownBlock = some k ∨ w.heap.size ≤ k := by
  obtain ⟨i121, hi, hz, hs, hb⟩ := info_parts Try.info121
  have HI := Lib.hid hi; have HZ := Lib.hid hz; have HS := Lib.hid hs; have HB := Lib.hid hb
  clear hi hz hs hb
  have b0 : w.cell? ⟨g, 0, none⟩ = some (.slice A T.length c) := by rw [h.blk.cell]; rfl
  have z0 : w.frozen? ⟨g, 0, none⟩ = false := h.blk.frozen 0
  have hgl' : g < w.heap.size := h.blk.lt
  have H := Lib.hid h; have HBS := Lib.hid hbase
  have HN := Lib.hid h.ne
  clear h hbase
  have HL1 : Hid (T.length + 1 ≤ maxLen) := by show _ ≤ _; unfold maxLen; omega
  have HL2 : Hid ((T.length + 1) * 16 ≤ 140737488355328) := by show _ ≤ _; omega
  have HONE : Hid (∀ u ∈ [Value.int .i64 x, Value.int .i64 s], u.oneCell' = true) := by
    intro u hu; rcases List.mem_cons.1 hu with rfl | hu; rfl; rw [List.mem_singleton.1 hu]; rfl
  have hta := Try.assert121 x s
  go_enter Try.func154, Try.ntmps154
  go_wp2_with fail
  go_region_law
    (refine step_append_lies _ (by rfl) _ _ _ (by rfl) base 121 i121 _ 2 16 Try.underlying117 HI.out HZ.out HS.out HB.out rfl (by omega) (.slice A T.length c) T.length (flat2 T) (by rfl) (H.out.row.alloc (.cells #[.int .i64 x, .int .i64 s] 121)).drew ⟨w.heap.size, 0, none⟩ 1 1 [.int .i64 x, .int .i64 s] (by rfl) (by simp) (World.news_of_block (cs := #[.int .i64 x, .int .i64 s]) (t := 121) (fr := (0, 0)) (heap_alloc_new w _)) HONE.out (by omega) HL1.out HL2.out (by have := HBS.out; simp; omega) _ rfl ?_
     intro gg cap w3 hown3 hgrow hat3 hlt3
     have HG3 := Lib.hid ((H.out.blk.alloc (.cells #[.int .i64 x, .int .i64 s] 121)).drew.grown hgrow (fun e => HN.out e.symm))
     have b3 : w3.cell? ⟨g, 0, none⟩ = some (.slice A T.length c) := by rw [HG3.out.cell]; rfl
     have z3 : w3.frozen? ⟨g, 0, none⟩ = false := HG3.out.frozen 0
     have hgl3 : g < w3.heap.size := HG3.out.lt
     have HO3 := Lib.hid hown3; have HGR := Lib.hid hgrow; have HAT := Lib.hid hat3
     clear hown3 hgrow hat3)
  all_goals
    go_wp2_with fail
    go_returns
    exact ⟨rfl, push_end H.out (.cells #[.int .i64 x, .int .i64 s] 121) x s HO3.out HGR.out HAT.out⟩

/-- what a step of the heap leaves: the same stops, in some order -/
def HStep (w : World) (g base : Nat) (A : Option Addr) (c : Nat) (T : List (Int × Int)) (w' : World) : Prop := ∃ T', T'.Perm T ∧ Stops w' g base A c T' ∧ Touch (StopsS g A T.length c) w w'
theorem Stops.low {w : World} {g base : Nat} {A : Option Addr} {c : Nat} {T : List (Int × Int)} (h : Stops w g base A c T) : w.cell? ⟨g, 0, none⟩ = some (.slice A T.length c) ∧ g < w.heap.size := ⟨by rw [h.blk.cell]; rfl, h.blk.lt⟩

theorem wrapChk (t : TypeId) (a : Addr) (s n : String) : Builtin.ssaWrapNilChk_ #[t] t #[.pointer (some a), strVal s, strVal n] = pure (.pointer (some a)) := rfl
theorem run_method_value {t elem : TypeId} {f fuel : Nat} {name : String} (hm : (Try.prog.info? t).map (fun i => (i.methods.find? (·.name == name)).map fun m => (m.path, m.func)) = some (some (#[], some (f, false)))) (hu : Try.prog.underlying t = some (.pointer elem))
    {a : Addr} {w : World} {v : Value} (hl : (loadVar elem a).run Try.prog w = .ok v w) : (method (fuel + 1) t (.pointer (some a)) name).run Try.prog w = .ok (f, v) w := by
  obtain ⟨i, hi, hm⟩ := Option.map_eq_some_iff.1 hm
  obtain ⟨m, hm, e⟩ := Option.map_eq_some_iff.1 hm
  simp only [Prod.mk.injEq] at e
  obtain ⟨e1, e2⟩ := e
  unfold method
  simp [typeInfo, hi, hm, e1, e2, Result.andThen, follow, receiverAt, run_underlying hu, Place.get, wrapChk, asAddr, hl]
theorem less_row : (Try.prog.info? 119).map (fun i => (i.methods.find? (·.name == "Less")).map fun m => (m.path, m.func)) = some (some (#[], some (151, false))) := by kernel_rfl
theorem load117 {g : Nat} {w : World} {A : Option Addr} {n c : Nat} (h : w.cell? ⟨g, 0, none⟩ = some (.slice A n c)) : (loadVar 117 ⟨g, 0, none⟩).run Try.prog w = .ok (.slice A n c) w := by
  simp [go_sem, loadVar, h]
theorem swap_row : (Try.prog.info? 119).map (fun i => (i.methods.find? (·.name == "Swap")).map fun m => (m.path, m.func)) = some (some (#[], some (152, false))) := by kernel_rfl
theorem len_row : (Try.prog.info? 119).map (fun i => (i.methods.find? (·.name == "Len")).map fun m => (m.path, m.func)) = some (some (#[], some (150, false))) := by kernel_rfl
theorem Stops.less {w : World} {g base c : Nat} {A : Option Addr} {T : List (Int × Int)} (h : Stops w g base A c T) : (method 275 119 (.pointer (some ⟨g, 0, none⟩)) "Less").run Try.prog w = .ok (151, .slice A T.length c) w := run_method_value less_row Try.underlying119 (load117 h.low.1)
theorem Stops.swap {w : World} {g base c : Nat} {A : Option Addr} {T : List (Int × Int)} (h : Stops w g base A c T) : (method 275 119 (.pointer (some ⟨g, 0, none⟩)) "Swap").run Try.prog w = .ok (152, .slice A T.length c) w := run_method_value swap_row Try.underlying119 (load117 h.low.1)
theorem Stops.len {w : World} {g base c : Nat} {A : Option Addr} {T : List (Int × Int)} (h : Stops w g base A c T) : (method 275 119 (.pointer (some ⟨g, 0, none⟩)) "Len").run Try.prog w = .ok (150, .slice A T.length c) w := run_method_value len_row Try.underlying119 (load117 h.low.1)
/-- the parent's place -/
theorem parent (k : Nat) : ∃ i : Nat, ((k : Int) - 1).tdiv 2 = (i : Int) ∧ (k = 0 → i = 0) ∧ (0 < k → i < k) := by
  rcases Nat.eq_zero_or_pos k with h | h
  · subst h; exact ⟨0, by decide, fun _ => rfl, fun h => by omega⟩
  · refine ⟨(k - 1) / 2, ?_, fun e => by omega, fun _ => by omega⟩
    have : ((k : Int) - 1) = ((k - 1 : Nat) : Int) := by omega
    rw [this]
    exact (Int.ofNat_tdiv _ 2).symm
set_option maxHeartbeats 4000000 in
set_option maxRecDepth 100000 in
theorem up_any (g base c : Nat) (A : Option Addr) (T : List (Int × Int)) (j : Nat) (w : World) (hl : T.length ≤ 1000000000000) (hj : j < T.length) (h : Stops w g base A c T) :
    Calls Try.prog 126 #[.iface 119 (.pointer (some ⟨g, 0, none⟩)), .int .i64 j] w fun e w' => e = .returned (.tuple #[]) ∧ HStep w g base A c T w' := by
  have H := Lib.hid h
  clear h
  go_enter Try.func126, Try.ntmps126
  go_wp2_with fail
  go_loopw [1, 4] (fun i _ wr => ∃ (k : Nat) (T' : List (Int × Int)), i = .int .i64 k ∧ k < T.length ∧ Hid (T'.length = T.length) ∧ Hid (T'.Perm T) ∧ Hid (Stops wr g base A c T') ∧ Hid (Touch (StopsS g A T.length c) w wr)) (fun i _ _ => (intOf i).toNat)
  case atStart => exact ⟨j, T, rfl, hj, rfl, List.Perm.refl _, H, Touch.refl _ _⟩
  case round =>
    obtain ⟨k, T', rfl, hk, HL, HP, HS, HT⟩ := hrel
    obtain ⟨b0, hg⟩ := HS.out.low
    have m1 := HS.out.less
    obtain ⟨i, hi, hi0, hik⟩ := parent k
    rcases Nat.eq_zero_or_pos k with h0 | h0
    · obtain rfl := hi0 h0
      subst h0
      go_wp2_with fail
      go_returns
      exact ⟨rfl, T', HP.out, HS.out, HT.out⟩
    · have hne : ¬ ((i : Int) = k) := by have := hik h0; omega
      have hne' : ((i : Int) == k) = false := by simpa using hne
      have hik' := hik h0
      go_wp2_with fail
      refine (less_any A c T' k i wr (by rw [HL.out]; omega) (by rw [HL.out]; omega) (by rw [HL.out]; omega) (Rd.of_own2 HS.out.row (Nat.le_refl _))).mono ?_
      rintro e w1 ⟨⟨b, rfl⟩, hb1⟩
      have HS1 := Lib.hid (HS.out.below hb1)
      have HT1 : Hid (Touch (StopsS g A T.length c) w w1) := HT.out.trans' (Touch.ofBelow hb1) (fun k hk hge => by have := HT.out.size; omega)
      have m2 := HS1.out.swap
      obtain ⟨b1, hg1⟩ := HS1.out.low
      clear hb1 m1
      cases b
      · go_wp2_with fail
        go_returns
        exact ⟨rfl, T', HP.out, HS1.out, HT1.out⟩
      · obtain ⟨p, hp⟩ : ∃ p, T'[k]? = some p := ⟨_, List.getElem?_eq_getElem (by rw [HL.out]; omega)⟩
        obtain ⟨q, hq⟩ : ∃ q, T'[i]? = some q := ⟨_, List.getElem?_eq_getElem (by rw [HL.out]; omega)⟩
        obtain ⟨gr, cr, hA, _, _⟩ := HS1.out.row.form (by rw [HL.out]; omega)
        obtain rfl : A = some ⟨gr, 0, none⟩ := by injection hA
        clear hA
        have HP' : Hid (((T'.set i p).set k q).Perm T) := (swap_perm hq hp).trans HP.out
        have HPq := Lib.hid hq; have HPp := Lib.hid hp
        clear hp hq
        go_wp2_with fail
        refine (swap_any gr base c T' i k q p w1 (by rw [HL.out]; omega) HPq.out HPp.out HS1.out.row).mono ?_
        rintro e w2 ⟨rfl, hr2, ht2⟩
        have hgne : g ≠ gr := fun e => HS1.out.ne (by rw [e]; rfl)
        have HS2 : Hid (Stops w2 g base (some ⟨gr, 0, none⟩) c ((T'.set i p).set k q)) := ⟨by have h := HS1.out.blk.touch ht2 hgne; simpa using h, by simpa using hr2⟩
        have HT2 : Hid (Touch (StopsS g (some ⟨gr, 0, none⟩) T.length c) w w2) := HT1.out.trans' ht2 (fun k hk e => .inr (by rw [e]; rfl))
        clear hr2 ht2 hgne
        go_wp2_with fail
        go_roundw
        case rel => exact ⟨i, (T'.set i p).set k q, rfl, by omega, by simpa [Hid] using HL.out, HP', HS2, HT2⟩
        case measure => simp [intOf]; omega
end Go.Proofs.Ytmpcoclgcldclaa
