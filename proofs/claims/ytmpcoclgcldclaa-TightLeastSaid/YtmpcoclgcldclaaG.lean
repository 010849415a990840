/- The walk of dfa's (*maker).state. -/
import Derived.Test.YtmpcoclgcldclaaF
import Derived.Test.YtmpcoclgcldclaaMem2
import Derived.Deep.RegionHeld3
import Derived.Deep.DrawnRows
namespace Go.Proofs.Ytmpcoclgcldclaa
open Go.RowKit
attribute [local go_sem ↓] Go.wp_at_zero Go.wp_at_succ

/-- the maker's block, and its two rows -/
structure Maker (w : World) (g base : Nat) (K S : Int) (AN : Option Addr) (cN : Nat) (N : List Int) (AA : Option Addr) (cA : Nat) (A : List Bool) : Prop where
  blk : Blk w g 79 #[.int .i64 K, .int .i64 S, .slice AN N.length cN, .slice AA A.length cA]
  next : w.ownsRow base 3 1 (.slice AN N.length cN) N.length (N.map (Value.int .i64))
  acc : w.ownsRow base 4 1 (.slice AA A.length cA) A.length (A.map Value.bool)

/-- what a step of the maker may turn -/
def MakerS (g : Nat) (AN : Option Addr) (nN cN : Nat) (AA : Option Addr) (nA cA : Nat) (k : Nat) : Prop :=
  k = g ∨ (Value.slice AN nN cN).ownBlock = some k ∨ (Value.slice AA nA cA).ownBlock = some k

theorem own_below {w w' : World} {base : Nat} {e : TypeId} {size n : Nat} {v : Value} {xs : List Value} (h : w.ownsRow base e size v n xs) (hb : Below w.heap.size w w') : w'.ownsRow base e size v n xs :=
  own_touch h (Touch.ofBelow hb) fun k hk hge => by have := (h.lt k hk).2; omega
theorem blk_below {w w' : World} {g : Nat} {t : TypeId} {cs : Array Value} (h : Blk w g t cs) (hb : Below w.heap.size w w') : Blk w' g t cs := h.below hb h.lt
theorem own_news {w : World} {base : Nat} {e : TypeId} {g n c : Nat} {xs : List Value} (h : w.ownsRow base e 1 (.slice (some ⟨g, 0, none⟩) n c) n xs) : ∀ j u, xs[j]? = some u → w.cell? ((⟨g, 0, none⟩ : Addr).add j) = some u :=
  h.cells rfl

theorem state_end {w3 : World} {g base K : Nat} {S to : Int} {AN AA' : Option Addr} {cN cA' gg cap : Nat} {N : List Int} {A : List Bool} {ac : Bool}
    (hb : Blk w3 g 79 #[.int .i64 K, .int .i64 S, .slice AN N.length cN, .slice AA' (A.length + 1) cA'])
    (hn : w3.ownsRow base 3 1 (.slice (some ⟨gg, 0, none⟩) (N.length + K) cap) (N.length + K) (N.map (Value.int .i64) ++ List.replicate K (.int .i64 to)))
    (ha : w3.ownsRow base 4 1 (.slice AA' (A.length + 1) cA') (A.length + 1) (A.map Value.bool ++ [.bool ac])) :
    Maker (w3.setCell ⟨g, 2, none⟩ (.slice (some ⟨gg, 0, none⟩) (N.length + K) cap)) g base K S (some ⟨gg, 0, none⟩) cap (N ++ List.replicate K to) AA' cA' (A ++ [ac]) := by
  have e1 : (N ++ List.replicate K to).length = N.length + K := by simp
  have e2 : (A ++ [ac]).length = A.length + 1 := by simp
  refine ⟨?_, ?_, ?_⟩
  · rw [e1, e2]; exact hb.set_ 2 _
  · rw [e1, List.map_append, List.map_replicate]
    exact ownsRow_setCell_other hn (own_ne_blk hn hb (by decide)) _
  · rw [e2, List.map_append]
    exact ownsRow_setCell_other ha (own_ne_blk ha hb (by decide)) _

set_option maxHeartbeats 4000000 in
set_option maxRecDepth 100000 in
theorem state_any (g base K : Nat) (S : Int) (AN : Option Addr) (cN : Nat) (N : List Int) (AA : Option Addr) (cA : Nat) (A : List Bool) (ac : Bool) (to : Int) (w : World)
    (hK1 : 1 ≤ K) (hK : K ≤ 1000) (hN : N.length ≤ 1000000000) (hA : A.length ≤ 1000000) (hbase : base ≤ w.heap.size) (hm : Maker w g base K S AN cN N AA cA A) :
    Calls Try.prog 82 #[.pointer (some ⟨g, 0, none⟩), .bool ac, .int .i64 to] w fun e w' =>
      e = .returned (.int .i64 A.length) ∧ ∃ AN' cN' AA' cA', Maker w' g base K S AN' cN' (N ++ List.replicate K to) AA' cA' (A ++ [ac]) ∧ Touch (MakerS g AN N.length cN AA A.length cA) w w' := by
  obtain ⟨i3, hi3, hz3, hs3, hb3⟩ := info_parts Try.info3
  obtain ⟨i4, hi4, hz4, hs4, hb4⟩ := info_parts Try.info4
  have HI3 := Lib.hid hi3; have HZ3 := Lib.hid hz3; have HS3 := Lib.hid hs3; have HB3 := Lib.hid hb3
  have HI4 := Lib.hid hi4; have HZ4 := Lib.hid hz4; have HS4 := Lib.hid hs4; have HB4 := Lib.hid hb4
  clear hi3 hz3 hs3 hb3 hi4 hz4 hs4 hb4
  have hg := hm.blk.lt
  have f3 : w.cell? ⟨g, 3, none⟩ = some (.slice AA A.length cA) := by rw [hm.blk.cell]; rfl
  have HM := Lib.hid hm; clear hm
  have HOA : Hid ((w.alloc (.cells #[.bool ac] 4)).ownsRow base 4 1 (.slice AA A.length cA) A.length (A.map Value.bool)) := HM.out.acc.alloc _
  have HBS := Lib.hid hbase; clear hbase
  go_enter Try.func82, Try.ntmps82
  go_wp2_with (at_builtin; refine wpList_append_own_at _ rfl (.tmp 12) (.tmp 14) 23 rfl base 4 i4 (.bool false) 1 1 Try.underlying23 HI4.out HZ4.out HS4.out HB4.out rfl (by omega) (.slice AA A.length cA) A.length (A.map Value.bool) rfl HOA.out ⟨w.heap.size, 0, none⟩ 1 1 [.bool ac] rfl rfl (World.news_of_block (cs := #[.bool ac]) (t := 4) (fr := (0, 0)) (heap_alloc_new w _)) ?c2 ?c3 ?c4 ?c5 ?_)
  case c2 => intro u hu; rw [List.mem_singleton.1 hu]; rfl
  case c3 => unfold maxLen; omega
  case c4 => omega
  case c5 => exact Nat.le_trans HBS.out (by simp)
  intro v1 w1 hown1 hgr1 _ hat1
  obtain ⟨AA', cA', rfl⟩ := own_form hown1
  have hne3 : (Value.slice AA A.length cA).ownBlock ≠ some g := own_ne_blk HM.out.acc HM.out.blk (by decide)
  have hneN : (Value.slice AN N.length cN).ownBlock ≠ some g := own_ne_blk HM.out.next HM.out.blk (by decide)
  have hb1 : Blk w1 g 79 #[.int .i64 K, .int .i64 S, .slice AN N.length cN, .slice AA A.length cA] := (HM.out.blk.alloc _).grown hgr1 hne3.symm
  have hN1 : w1.ownsRow base 3 1 (.slice AN N.length cN) N.length (N.map (Value.int .i64)) :=
    own_touch (HM.out.next.alloc _) (Touch.ofGrown hgr1) fun k hk e => own_ne_own HM.out.acc HM.out.next (by decide) hk e.symm
  have ht1 : Touch (MakerS g AN N.length cN AA A.length cA) w w1 := ((Touch.refl _ w).alloc _).grown hgr1 fun k hk _ => .inr (.inr hk)
  have f3 : w1.cell? ⟨g, 3, none⟩ = some (.slice AA A.length cA) := by rw [hb1.cell]; rfl
  have r3 : w1.frozen? ⟨g, 3, none⟩ = false := hb1.frozen 3
  have hneA' : (Value.slice AA' (A.length + 1) cA').ownBlock ≠ some g := own_ne_blk hown1 hb1 (by decide)
  have hb2 : Blk (w1.setCell ⟨g, 3, none⟩ (.slice AA' (A.length + 1) cA')) g 79 #[.int .i64 K, .int .i64 S, .slice AN N.length cN, .slice AA' (A.length + 1) cA'] := hb1.set_ 3 _
  have hN2 : (w1.setCell ⟨g, 3, none⟩ (.slice AA' (A.length + 1) cA')).ownsRow base 3 1 (.slice AN N.length cN) N.length (N.map (Value.int .i64)) := ownsRow_setCell_other hN1 hneN _
  have hA2 : (w1.setCell ⟨g, 3, none⟩ (.slice AA' (A.length + 1) cA')).ownsRow base 4 1 (.slice AA' (A.length + 1) cA') (A.length + 1) (A.map Value.bool ++ [.bool ac]) := ownsRow_setCell_other hown1 hneA' _
  have ht2 : Touch (MakerS g AN N.length cN AA A.length cA) w (w1.setCell ⟨g, 3, none⟩ (.slice AA' (A.length + 1) cA')) := ht1.setCell (fun _ => .inl rfl) _
  have HB2 := Lib.hid hb2; have HN2 := Lib.hid hN2; have HA2 := Lib.hid hA2; have HT2 := Lib.hid ht2; have HAT := Lib.hid hat1
  clear hb2 hN2 hA2 ht2 ht1 hN1 hb1 hown1 hgr1 hneA' hneN hne3 hat1
  go_wp2_with fail
  generalize hW2 : w1.setCell ⟨g, 3, none⟩ (.slice AA' (A.length + 1) cA') = W2 at HB2 HN2 HA2 HT2 ⊢
  clear hW2 f3 r3
  have hg2 : g < W2.heap.size := HB2.out.lt
  have q2 : W2.cell? ⟨g, 2, none⟩ = some (.slice AN N.length cN) := by rw [HB2.out.cell]; rfl
  have q0 : W2.cell? ⟨g, 0, none⟩ = some (.int .i64 K) := by rw [HB2.out.cell]; rfl
  have HNE : Hid (some g ≠ (Value.slice AN N.length cN).ownBlock) := (own_ne_blk HM.out.next HM.out.blk (by decide)).symm
  have HKb : Hid (K ≤ 1000000) := by show K ≤ 1000000; omega
  have HK1 : Hid (1 ≤ K) := hK1
  have HNW : Hid (W2.cell? ⟨g, 2, none⟩ = some (.slice AN N.length cN) ∧ W2.cell? ⟨g, 0, none⟩ = some (.int .i64 K)) := ⟨q2, q0⟩
  have HBW : Hid (base ≤ W2.heap.size) := by
    have h1 := HT2.out.size
    have h2 := HBS.out
    exact Nat.le_trans h2 h1
  have HL1 : Hid (N.length + K ≤ maxLen) := by show _ ≤ _; unfold maxLen; omega
  have HL2 : Hid ((N.length + K) * 8 ≤ 140737488355328) := by show _ ≤ _; omega
  have HONE : Hid (∀ u ∈ List.replicate K (Value.int .i64 to), u.oneCell' = true) := by
    intro u hu; rw [(List.mem_replicate.1 hu).2]; rfl
  go_region_law
    (first
      | (go_simp
         go_at_call 109
         refine (repeat_any to K _ 0 1 _ HK1.out HKb.out ?_ ?_).mono ?_
         (simp)
         (simp)
         rintro e wR ⟨vR, rfl, hownR, hbR⟩
         obtain ⟨gR, capR, rfl, hgR, hgR'⟩ := hownR.form HK1.out
         have hk2 : wR.cell? ⟨g, 2, none⟩ = some (.slice AN N.length cN) := (hbR.cell (p := ⟨g, 2, none⟩) (by simp; omega)).trans ((World.cell?_alloc_lt W2 _ ⟨g, 2, none⟩ hg2).trans q2)
         have hk0 : wR.cell? ⟨g, 0, none⟩ = some (.int .i64 K) := (hbR.cell (p := ⟨g, 0, none⟩) (by simp; omega)).trans ((World.cell?_alloc_lt W2 _ ⟨g, 0, none⟩ hg2).trans q0)
         have HBB : Hid (base ≤ wR.heap.size) := by
           have h9 := hbR.size
           have h8 := HBW.out
           simp at h9
           show base ≤ wR.heap.size
           omega
         have hgw : g < wR.heap.size := by
           have h9 := hbR.size
           simp at h9
           omega
         have HR2 : Hid (wR.frozen? ⟨g, 2, none⟩ = false) := (hbR.frozen (p := ⟨g, 2, none⟩) (by simp; omega)).trans ((HB2.out.alloc _).frozen 2)
         have HBR := Lib.hid hbR
         have HOR := Lib.hid hownR
         clear hbR hownR
         dsimp only)
      | (refine step_append_lies _ (by rfl) _ _ _ (by rfl) base 3 i3 _ 1 8 Try.underlying22 HI3.out HZ3.out HS3.out HB3.out rfl (by omega) (.slice AN N.length cN) N.length (N.map (Value.int .i64)) (by rfl) (own_below ((HN2.out.alloc _).drew) HBR.out) ⟨gR, 0, none⟩ K capR (List.replicate K (.int .i64 to)) (by rfl) (by simp) (own_news HOR.out) HONE.out HK1.out HL1.out HL2.out HBB.out _ rfl ?_
         intro gg cap w3 hown3 hgrow hat3 hlt3
         have hk2' : w3.cell? ⟨g, 2, none⟩ = some (.slice AN N.length cN) := (hgrow.cell_far ⟨g, 2, none⟩ hgw HNE.out).trans hk2
         have hk0' : w3.cell? ⟨g, 0, none⟩ = some (.int .i64 K) := (hgrow.cell_far ⟨g, 0, none⟩ hgw HNE.out).trans hk0
         have hr2' : w3.frozen? ⟨g, 2, none⟩ = false := (hgrow.frozen_far ⟨g, 2, none⟩ hgw HNE.out).trans HR2.out
         have HBK3 := Lib.hid ((blk_below ((HB2.out.alloc (.cells #[.int .i64 to] 3)).drew) HBR.out).grown hgrow HNE.out)
         have hk3' : w3.cell? ⟨g, 3, none⟩ = some (.slice AA' (A.length + 1) cA') := by rw [HBK3.out.cell]; rfl
         have HA3 : Hid (w3.ownsRow base 4 1 (.slice AA' (A.length + 1) cA') (A.length + 1) (A.map Value.bool ++ [.bool ac])) := own_touch (own_below ((HA2.out.alloc (.cells #[.int .i64 to] 3)).drew) HBR.out) (Touch.ofGrown hgrow) fun k hk e => own_ne_own HN2.out HA2.out (by decide) hk e.symm
         have HT3 : Hid (Touch (MakerS g AN N.length cN AA A.length cA) w w3) := (((HT2.out.alloc (.cells #[.int .i64 to] 3)).drew).below HBR.out (fun k hk hk' => by have := HT2.out.size; simp at hk; omega)).grown hgrow fun k hk _ => .inr (.inl hk)
         have HOWN3 := Lib.hid hown3
         clear hown3 hgrow hat3))
  all_goals
    go_wp2_with fail
    go_ret
    exact ⟨rfl, _, _, _, _, state_end HBK3.out HOWN3.out HA3.out, HT3.out.setCell (fun _ => .inl rfl) _⟩
end Go.Proofs.Ytmpcoclgcldclaa
