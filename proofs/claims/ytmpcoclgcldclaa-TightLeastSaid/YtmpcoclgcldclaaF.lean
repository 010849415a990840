/- The walk of slices.Repeat at []int, of one number. -/
import Derived.Test.YtmpcoclgcldclaaE
import Derived.Test.YtmpcoclgcldclaaShelf
import Derived.Laws.CopyOwn
import Derived.Deep.RegionLaw
namespace Go.Proofs.Ytmpcoclgcldclaa
open Go.RowKit

theorem Try.info3 : (Try.prog.info? 3).map (fun i => (i.zero, i.size, i.bytes)) = some (some (.int .i64 0), 1, 8) := by kernel_rfl
theorem Try.info4 : (Try.prog.info? 4).map (fun i => (i.zero, i.size, i.bytes)) = some (some (.bool false), 1, 1) := by kernel_rfl
theorem Try.size3 : (Try.prog.info? 3).map (·.size) = some 1 := by kernel_rfl

/-- the first m cells hold v -/
def Filled (cur : List Value) (n m : Nat) (v : Value) : Prop := cur.length = n ∧ (∀ j, j < m → cur[j]? = some v) ∧ ∀ u ∈ cur, u.oneCell' = true

theorem Filled.full {cur : List Value} {n : Nat} {v : Value} (h : Filled cur n n v) : cur = List.replicate n v := by
  apply List.ext_getElem?
  intro j
  by_cases hj : j < n
  · rw [h.2.1 j hj, List.getElem?_replicate, if_pos hj]
  · rw [List.getElem?_eq_none (by rw [h.1]; omega), List.getElem?_replicate, if_neg hj]

theorem Filled.splice {cur : List Value} {n m : Nat} {v : Value} (h : Filled cur n m v) (hv : v.oneCell' = true) (c : Nat) (hc : m + c ≤ n) :
    Filled (splice cur m (List.replicate c v)) n (m + c) v := by
  obtain ⟨h1, h2, h3⟩ := h
  refine ⟨by rw [length_splice _ _ _ (by simp; omega)]; exact h1, fun j hj => ?_, fun u hu => ?_⟩
  · unfold Go.splice
    by_cases hjm : j < m
    · rw [List.getElem?_append_left (by simp; omega), List.getElem?_take_of_lt hjm]; exact h2 j hjm
    · rw [List.getElem?_append_right (by simp; omega), List.getElem?_append_left (by simp; omega), List.getElem?_replicate, if_pos (by simp; omega)]
  · unfold Go.splice at hu
    rcases List.mem_append.1 hu with hu | hu
    · exact h3 u (List.mem_of_mem_take hu)
    · rcases List.mem_append.1 hu with hu | hu
      · rw [(List.mem_replicate.1 hu).2]; exact hv
      · exact h3 u (List.mem_of_mem_drop hu)

theorem mul_one_any (K : Nat) (hK : K ≤ 1000000) (w : World) : Calls Try.prog 125 #[.int .u64 1, .int .u64 K] w fun e w' => e = .returned (.tuple #[.int .u64 0, .int .u64 K]) ∧ w = w' :=
  (Try.bits_Mul 1 K (by omega) (by omega) w).mono fun e w' ⟨he, hw⟩ => by
    refine ⟨?_, hw.symm⟩
    rw [he, Nat.one_mul, Nat.div_eq_of_lt (by omega), Nat.mod_eq_of_lt (by omega)]
    rfl
/-- make at one length and one capacity, as an equation -/
theorem run_make_rowN {P : Program} (t e : TypeId) (i : TypeInfo) (z : Value) (ht : P.underlying t = some (.slice e)) (hi : P.info? e = some i) (hz : i.zero = some z)
    (kl kc : IntKind) (n c : Nat) (hnc : n ≤ c) (hbytes : i.bytes * c ≤ 281474976710656) (h63 : c ≤ 9223372036854775807) (w : World) :
    (Instr.makeSlice t (.int kl (n : Int)) (.int kc (c : Int))).run P w = .ok (.slice (some ⟨w.heap.size, 0, none⟩) n c) (w.alloc (.cells (madeCells z.cells (c * i.size)) e)) := by
  have hb : (i.bytes : Int) * (c : Int) ≤ 281474976710656 := by
    have h : ((i.bytes * c : Nat) : Int) ≤ 281474976710656 := by omega
    rwa [Int.natCast_mul] at h
  have hr := run_make (P := P) w t e i z ht hi hz kl kc n c (by omega) (by omega) hb (by omega)
  simp only [Int.toNat_natCast] at hr
  exact hr

set_option maxHeartbeats 1000000 in
set_option maxRecDepth 100000 in
theorem repeat_any (x : Int) (K b o c : Nat) (w : World) (hK1 : 1 ≤ K) (hK : K ≤ 1000000) (hb : b < w.heap.size) (hx : w.cell? ⟨b, o, none⟩ = some (.int .i64 x)) :
    Calls Try.prog 109 #[.slice (some ⟨b, o, none⟩) 1 c, .int .i64 K] w fun e w' =>
      ∃ v', e = .returned v' ∧ w'.ownsRow w.heap.size 3 1 v' K (List.replicate K (.int .i64 x)) ∧ Below w.heap.size w w' := by
  have hmul := fun W => mul_one_any K hK W
  have HM := Lib.hid hmul; clear hmul
  obtain ⟨i0, hi0, hz0, hz1, hz2⟩ := info_parts Try.info3
  have hmk : ∀ W : World, (Instr.makeSlice 22 (.int .i64 (K : Int)) (.int .i64 (K : Int))).run Try.prog W = .ok (.slice (some ⟨W.heap.size, 0, none⟩) K K) (W.alloc (.cells (madeCells #[.int .i64 0] K) 3)) := fun W => by
    have h := run_make_rowN (P := Try.prog) 22 3 i0 (.int .i64 0) Try.underlying22 hi0 hz0 .i64 .i64 K K (Nat.le_refl _) (by rw [hz2]; omega) (by omega) W
    rw [hz1, Nat.mul_one] at h
    exact h
  have HZ := Lib.hid hz0; clear hz0
  have HI := Lib.hid hi0; clear hi0
  clear hz1 hz2
  go_enter Try.func109, Try.ntmps109
  go_wp2_with fail
  refine (HM.out _).mono ?_
  rintro e w1 ⟨rfl, rfl⟩
  go_wp2_with (refine wpList_copy_splice rfl (.tmp 31) (.tmp 32) 22 22 rfl 3 Try.underlying22 Try.size3 (some ⟨w.heap.size, 0, none⟩) (some ⟨b, o, none⟩) K K 1 c rfl rfl w.heap.size 0 (madeCells #[.int .i64 0] K).toList 3 ?c1 [.int .i64 x] ?c2 ?c3 ?c4 ?c5 w.heap.size w ?c6 ?c7 ?_)
  case c1 => rw [Array.toArray_toList]; exact heap_alloc_new w _
  case c2 => simp [Nat.min_def]; omega
  case c3 =>
    intro j v hv
    have hj : j = 0 := by have := (List.getElem?_eq_some_iff.1 hv).1; simp at this; exact this
    subst hj
    have : v = .int .i64 x := by simpa using hv.symm
    subst this
    simpa using hx
  case c4 => simp [size_madeCells]; omega
  case c5 => intro u hu; rw [List.mem_singleton.1 hu]; rfl
  case c6 => exact (Below.refl _ _).alloc (Nat.le_refl _) _
  case c7 => exact Nat.le_refl _
  intro w1 hg1 hb1
  have HB1 := Lib.hid hb1; clear hb1
  have hf0 : Filled (madeCells #[.int .i64 0] K).toList K 0 (.int .i64 x) := ⟨by simp [size_madeCells], fun j hj => absurd hj (by omega), fun u hu => by
    rw [toList_madeCells_one] at hu; rw [(List.mem_replicate.1 hu).2]; rfl⟩
  have hf1 := hf0.splice (v := .int .i64 x) rfl 1 (by omega)
  rw [Nat.zero_add] at hf1
  have HF := Lib.hid hf1; clear hf1 hf0
  obtain ⟨g, hg⟩ : ∃ g, g = w.heap.size := ⟨_, rfl⟩
  have HG1 : Hid (w1.heap[g]? = some (.cells (splice (madeCells #[.int .i64 0] K).toList 0 [.int .i64 x]).toArray 3 (0, 0))) := by rw [hg]; exact hg1
  clear hg1 HM hmk HI HZ hx
  rw [← hg]
  have HG := Lib.hid hg; clear hg
  go_wp2_with fail
  go_loopw [8] (fun n wr => ∃ m : Nat, 1 ≤ m ∧ m ≤ K ∧ n = .int .i64 m ∧ ∃ cur : List Value, Hid (wr.heap[g]? = some (.cells cur.toArray 3 (0, 0))) ∧ Hid (Filled cur K m (.int .i64 x)) ∧ Hid (Below w.heap.size w wr)) (fun n wr => K - (intOf n).toNat)
  case atStart => exact ⟨1, by omega, by omega, rfl, _, HG1, HF, HB1⟩
  case round =>
    obtain ⟨m, hm1, hm2, rfl, cur, HC, HFm, HB⟩ := hrel
    clear HG1 HF HB1
    by_cases hlt : m < K
    · have hne : ¬ K = m := by omega
      obtain ⟨cs, HL, HCS⟩ : ∃ cs : List Value, Hid (cs.length = Nat.min m (K - m)) ∧ Hid (cs = List.replicate (Nat.min m (K - m)) (.int .i64 x)) := ⟨_, by simp [Hid], rfl⟩
      have hl0 : cs.length ≤ m ∧ m + cs.length ≤ K ∧ 1 ≤ cs.length := by rw [HL.out]; simp only [Nat.min_def]; split <;> omega
      obtain ⟨hl1, hl2, hl3⟩ := hl0
      have hwr : IntKind.i64.wrap ((m : Int) + cs.length) = (m : Int) + cs.length := by rw [IntKind.wrap_i64]; omega
      have hp0 : (0 : Int) ≤ m := by omega
      have hp1 : (m : Int) ≤ K := by omega
      have HCd : Hid (wr.drew.heap[g]? = some (.cells cur.toArray 3 (0, 0))) := HC.out
      have HP : Hid (∀ j v, cs[j]? = some v → wr.drew.cell? ((⟨g, 0, none⟩ : Addr).add j) = some v) := by
        intro j v hv
        have hj : j < cs.length := (List.getElem?_eq_some_iff.1 hv).1
        rw [HCS.out, List.getElem?_replicate] at hv
        have hv' : v = .int .i64 x := by
          split at hv
          · exact (Option.some.inj hv).symm
          · cases hv
        rw [hv', Addr.add_lit, Nat.zero_add]
        rw [cell_of_row wr.drew g j cur.toArray 3 (0, 0) HCd.out]
        simpa using HFm.out.2.1 j (by omega)
      have H1 : Hid (∀ u ∈ cs, u.oneCell' = true) := by
        intro u hu
        rw [HCS.out] at hu
        rw [(List.mem_replicate.1 hu).2]; rfl
      have HFT : Hid (m + cs.length ≤ cur.length) := by rw [HFm.out.1]; exact hl2
      have HBd : Hid (Below w.heap.size w wr.drew) := HB.out.drew
      have HGL : Hid (w.heap.size ≤ g) := by rw [HG.out]; exact Nat.le_refl _
      go_wp2_with fail
      go_region_law (refine step_copy_splice rfl (.tmp 41) (.tmp 44) 22 22 rfl 3 Try.underlying22 Try.size3 (some ⟨g, m, none⟩) (some ⟨g, 0, none⟩) (K - m) (K - m) m K (by simp [Act.eval, Act.put]) (by simp [Act.eval, Act.put]) g m cur 3 HCd.out cs HL.out (fun _ => ⟨rfl, ⟨g, 0, none⟩, rfl, HP.out⟩) HFT.out H1.out w.heap.size w HBd.out HGL.out ?_; intro w4 hg4 hb4)
      go_wp2_with fail
      have hs2 := HFm.out.splice (v := .int .i64 x) rfl cs.length hl2
      have hcs2 : cs = List.replicate cs.length (.int .i64 x) := by rw [HL.out]; exact HCS.out
      rw [← hcs2] at hs2
      simp only [List.getElem_toArray, List.getElem_cons_succ, List.getElem_cons_zero, Act.put, List.setIfInBounds_toArray, List.set_cons_succ, List.set_cons_zero]
      go_roundw
      case rel => exact ⟨m + cs.length, by omega, by omega, by go_num, _, hg4, hs2, hb4⟩
      case measure => simp [intOf]; omega
    · have hmK : m = K := by omega
      subst hmK
      go_wp2_with fail
      go_ret
      refine ⟨_, rfl, ?_, HB.out⟩
      refine ⟨by simp, .inr ⟨g, m, cur.toArray, rfl, by rw [HG.out]; exact Nat.le_refl _, HC.out, Nat.le_refl _, by unfold maxLen; omega, by simp [HFm.out.1], ?_⟩⟩
      rw [Nat.mul_one, List.take_of_length_le (by simp [HFm.out.1])]
      exact HFm.out.full
end Go.Proofs.Ytmpcoclgcldclaa
