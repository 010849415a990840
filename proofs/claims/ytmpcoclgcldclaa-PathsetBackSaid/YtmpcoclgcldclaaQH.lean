/- The walks of layer 19's law helpers: tells, zero; the document's Path (layer 9), Begins, Ahead. -/
import Derived.Test.YtmpcoclgcldclaaQE
import Derived.Test.YtmpcoclgcldclaaR
import Derived.Test.YtmpcoclgcldclaaHH
namespace Go.Proofs.Ytmpcoclgcldclaa
open Go.RowKit
attribute [local go_sem ↓] Go.wp_at_zero Go.wp_at_succ

set_option maxHeartbeats 2000000 in
set_option maxRecDepth 100000 in
theorem tells19_c {w : World} {d : D} {An Aa : Option Addr} (h : DIn w d An Aa) (cn ca : Nat) (s : ByteArray) (hs : s.size ≤ 100000) : Calls Try.prog 71 #[dfaV d.K d.S An d.N.length cn Aa d.A.length ca, .string s] w (Ret (.bool (d.tells (wordL s))) w) := by
  have HH := Lib.hid (HasD.new h cn ca)
  have HB0 := Lib.hid (bel_new w (.cells #[.int .i64 d.K, .int .i64 d.S, .slice An d.N.length cn, .slice Aa d.A.length ca] 25))
  have HWD := Lib.hid (fun W => word19_any s hs W)
  have hwl := wordL_len s
  clear h
  go_enter Try.func71, Try.ntmps71
  go_wp2_with fail
  replace HH := Lib.hid HH.out.drew
  replace HB0 := Lib.hid HB0.out.drew
  obtain ⟨a0, a1, a2, a3⟩ := HH.out.cells
  have ltb := HH.out.lt
  first | (go_region_with
    (first
        | (go_at_call 108
           refine (HWD.out _).mono ?_
           rintro e w1 ⟨A, c, rfl, hr, hb⟩
           have HH1 := Lib.hid (HH.out.up hb)
           have HW1 : Hid (WIn w1 (wordL s) A) := ⟨by omega, hr⟩
           have HB1 := Lib.hid (bel_step HB0.out hb)
           obtain ⟨b0, b1, b2, b3⟩ := HH1.out.cells
           have ltb1 := HH1.out.lt
           clear hr hb)
        | (go_at_call 30
           refine (refTells_c HH1.out.din HW1.out cn ca c).mono ?_
           rintro e w2 ⟨rfl, hb⟩
           have HB2 := Lib.hid (bel_step HB1.out hb)
           clear hb))) | fail
  all_goals
    go_wp2_with fail
    go_ret
    exact ⟨rfl, HB2.out⟩
set_option maxHeartbeats 1000000 in
set_option maxRecDepth 100000 in
theorem zero19_any (d : D) (An Aa : Option Addr) (cn ca : Nat) (w : World) :
    Calls Try.prog 77 #[dfaV d.K d.S An d.N.length cn Aa d.A.length ca] w fun e w' => e = .returned (.bool d.zeroB) ∧ Below w.heap.size w w' := by
  have hz : d.zeroB = ((d.K == 0) && ((d.S == 0) && (((d.N.length : Int) == 0) && ((d.A.length : Int) == 0)))) := rfl
  have HZ : ∀ b, ((d.K == 0) && ((d.S == 0) && (((d.N.length : Int) == 0) && ((d.A.length : Int) == 0)))) = b → d.zeroB = b := fun b h => hz.trans h
  clear hz
  have HZ' := Lib.hid HZ; clear HZ
  rcases h1 : d.K == 0 with _ | _
  · have hf := HZ'.out false (by rw [h1]; rfl)
    rw [hf]; clear hf
    go_enter Try.func77, Try.ntmps77
    go_wp2
    go_ret
    exact ⟨rfl, (Below.refl _ _).alloc (Nat.le_refl _) _⟩
  rcases h2 : d.S == 0 with _ | _
  · have hf := HZ'.out false (by rw [h1, h2]; rfl)
    rw [hf]; clear hf
    go_enter Try.func77, Try.ntmps77
    go_wp2
    go_ret
    exact ⟨rfl, (Below.refl _ _).alloc (Nat.le_refl _) _⟩
  rcases h3 : (d.N.length : Int) == 0 with _ | _
  · have hf := HZ'.out false (by rw [h1, h2, h3]; rfl)
    rw [hf]; clear hf
    go_enter Try.func77, Try.ntmps77
    go_wp2
    go_ret
    exact ⟨rfl, (Below.refl _ _).alloc (Nat.le_refl _) _⟩
  · have hf := HZ'.out ((d.A.length : Int) == 0) (by rw [h1, h2, h3]; rfl)
    rw [hf]; clear hf
    rcases h4 : (d.A.length : Int) == 0 with _ | _
    all_goals
      go_enter Try.func77, Try.ntmps77
      go_wp2
      go_ret
      exact ⟨rfl, (Below.refl _ _).alloc (Nat.le_refl _) _⟩

/-- does a path belong to another one? -/
def pathOf (p o : List Int) : Bool := decide (p = o) || (decide (o.length < p.length) && (decide (p.take o.length = o) && (decide (p[o.length]? = some 47) || decide (o.getLast? = some 47))))
def preOf (p o : List Int) : Bool := decide (o.length ≤ p.length) && decide (p.take o.length = o)
theorem toList_eq_iff {a b : ByteArray} : a.toList = b.toList ↔ bs a = bs b := by
  rw [ByteArray.toList_eq, ByteArray.toList_eq]
  constructor
  · intro h; unfold bs; rw [h]
  · intro h; rw [bs_inj h]
theorem toList_ex {p o : ByteArray} (h : o.size ≤ p.size) : (p.extract 0 o.size).toList = o.toList ↔ (bs p).take (bs o).length = bs o := by
  rw [toList_eq_iff]
  have : bs (p.extract 0 o.size) = (bs p).take o.size := by
    unfold bs
    rw [ByteArray.data_extract, Array.toList_extract, List.map_take]
    simp
  rw [this, bs_len]
set_option maxHeartbeats 4000000 in
set_option maxRecDepth 100000 in
theorem begins19_any (p o : ByteArray) (hp : p.size ≤ 9223372036854775807) (ho : o.size ≤ 9223372036854775807) (w : World) : Calls Try.prog 78 #[.string p, .string o] w (Ret (.bool (preOf (bs p) (bs o))) w) := by
  by_cases h1 : o.size ≤ p.size
  · have hle : (o.size : Int) ≤ p.size := by omega
    by_cases h2 : (bs p).take (bs o).length = bs o
    · have he : (p.extract 0 o.size).toList = o.toList := (toList_ex h1).2 h2
      have HR : Hid (preOf (bs p) (bs o) = true) := by show _ = _; unfold preOf; rw [bs_len, bs_len, decide_eq_true h1, decide_eq_true (by rw [bs_len] at h2; exact h2)]; rfl
      clear h2
      go_enter Try.func78, Try.ntmps78
      go_wp2_with fail
      go_ret
      exact ⟨by rw [HR.out]; rfl, Below.refl _ _⟩
    · have he : ((p.extract 0 o.size).toList == o.toList) = false := beq_eq_false_iff_ne.2 fun h => h2 ((toList_ex h1).1 h)
      have HR : Hid (preOf (bs p) (bs o) = false) := by show _ = _; unfold preOf; rw [decide_eq_false h2, Bool.and_false]
      clear h2
      go_enter Try.func78, Try.ntmps78
      go_wp2_with fail
      go_ret
      exact ⟨by rw [HR.out]; rfl, Below.refl _ _⟩
  · have HR : Hid (preOf (bs p) (bs o) = false) := by show _ = _; unfold preOf; rw [bs_len, bs_len, decide_eq_false h1]; rfl
    have hle : (p.size : Int) < o.size := by omega
    go_enter Try.func78, Try.ntmps78
    go_wp2_with fail
    go_ret
    exact ⟨by rw [HR.out]; rfl, Below.refl _ _⟩
set_option maxHeartbeats 4000000 in
set_option maxRecDepth 100000 in
theorem path9_any (p o : ByteArray) (hp : p.size ≤ 9223372036854775807) (ho : o.size ≤ 9223372036854775807) (w : World) : Calls Try.prog 72 #[.string p, .string o] w (Ret (.bool (pathOf (bs p) (bs o))) w) := by
  by_cases h0 : bs p = bs o
  · have he : p.toList = o.toList := toList_eq_iff.2 h0
    have HR : Hid (pathOf (bs p) (bs o) = true) := by show _ = _; unfold pathOf; rw [decide_eq_true h0]; rfl
    clear h0
    go_enter Try.func72, Try.ntmps72
    go_wp2_with fail
    go_ret
    exact ⟨by rw [HR.out]; rfl, Below.refl _ _⟩
  have he : (p.toList == o.toList) = false := beq_eq_false_iff_ne.2 fun h => h0 (toList_eq_iff.1 h)
  have he2 : ¬ p.toList = o.toList := fun h => h0 (toList_eq_iff.1 h)
  by_cases h1 : o.size < p.size
  · have hle : (o.size : Int) < p.size := by omega
    by_cases h2 : (bs p).take (bs o).length = bs o
    · have he3 : (p.extract 0 o.size).toList = o.toList := (toList_ex (by omega)).2 h2
      obtain ⟨x, hx, ⟨hx0, hx1⟩, hbx⟩ := byte_at h1
      have hlt : (bs o).length < (bs p).length := by rw [bs_len, bs_len]; exact h1
      by_cases h47 : x = 47
      · have b47 : (x == 47) = true := by simpa using h47
        have HR : Hid (pathOf (bs p) (bs o) = true) := by
          show _ = _
          unfold pathOf
          rw [decide_eq_false h0, decide_eq_true hlt, decide_eq_true h2, decide_eq_true (show (bs p)[(bs o).length]? = some 47 by rw [bs_len, hx, h47])]; rfl
        clear h2 h0 hx h47
        go_enter Try.func72, Try.ntmps72
        go_wp2_with fail
        go_ret
        exact ⟨by rw [HR.out]; rfl, Below.refl _ _⟩
      · have b47 : (x == 47) = false := by simpa using h47
        have hne : ¬ (bs p)[(bs o).length]? = some 47 := by rw [bs_len, hx]; intro e; exact h47 (Option.some.inj e)
        by_cases h3 : 0 < o.size
        · obtain ⟨y, hy, ⟨hy0, hy1⟩, hby⟩ := byte_at (show o.size - 1 < o.size by omega)
          have hgl : (bs o).getLast? = some y := by rw [List.getLast?_eq_getElem?, bs_len]; exact hy
          obtain ⟨q, hq⟩ : ∃ q, q = (y == 47) := ⟨_, rfl⟩
          have HR : Hid (pathOf (bs p) (bs o) = q) := by
            show _ = _
            unfold pathOf
            rw [decide_eq_false h0, decide_eq_true hlt, decide_eq_true h2, decide_eq_false hne, hgl, hq]
            by_cases hy47 : y = 47
            · subst hy47; rfl
            · rw [decide_eq_false (fun e => hy47 (Option.some.inj e)), beq_eq_false_iff_ne.2 hy47]; rfl
          have hq2 := hq.symm
          have ht : (((o.size : Nat) : Int) - 1).toNat = o.size - 1 := by omega
          clear h2 h0 hx h47 hy hgl hne hq
          go_enter Try.func72, Try.ntmps72
          go_wp2_with fail
          go_ret
          exact ⟨by rw [HR.out]; rfl, Below.refl _ _⟩
        · have hz : o.size = 0 := by omega
          have HR : Hid (pathOf (bs p) (bs o) = false) := by
            show _ = _
            unfold pathOf
            have : bs o = [] := List.eq_nil_of_length_eq_zero (by rw [bs_len]; exact hz)
            rw [decide_eq_false h0, decide_eq_false hne, this]; simp
          have h3' : (o.size : Int) ≤ 0 := by omega
          clear h2 h0 hx h47 hne hz h3
          go_enter Try.func72, Try.ntmps72
          go_wp2_with fail
          go_ret
          exact ⟨by rw [HR.out]; rfl, Below.refl _ _⟩
    · have he3 : ((p.extract 0 o.size).toList == o.toList) = false := beq_eq_false_iff_ne.2 fun h => h2 ((toList_ex (by omega)).1 h)
      have HR : Hid (pathOf (bs p) (bs o) = false) := by show _ = _; unfold pathOf; rw [decide_eq_false h0, decide_eq_false h2]; simp
      clear h2 h0
      go_enter Try.func72, Try.ntmps72
      go_wp2_with fail
      go_ret
      exact ⟨by rw [HR.out]; rfl, Below.refl _ _⟩
  · have HR : Hid (pathOf (bs p) (bs o) = false) := by show _ = _; unfold pathOf; rw [decide_eq_false h0, decide_eq_false (by rw [bs_len, bs_len]; exact h1)]; rfl
    have hle : (p.size : Int) ≤ o.size := by omega
    clear h0
    go_enter Try.func72, Try.ntmps72
    go_wp2_with fail
    go_ret
    exact ⟨by rw [HR.out]; rfl, Below.refl _ _⟩
/-- is a path ahead of another one? -/
def aheadB (a b : List Int) : Bool := if a.length = b.length then smB a b else decide (a.length < b.length)
set_option maxHeartbeats 4000000 in
set_option maxRecDepth 100000 in
theorem ahead_any (a b : ByteArray) (ha : a.size ≤ 9223372036854775807) (hb : b.size ≤ 9223372036854775807) (w : World) : Calls Try.prog 75 #[.string a, .string b] w (Ret (.bool (aheadB (bs a) (bs b))) w) := by
  by_cases h0 : a.size = b.size
  · have HA : Hid (aheadB (bs a) (bs b) = smB (bs a) (bs b)) := by show _ = _; unfold aheadB; rw [if_pos (by rw [bs_len, bs_len]; exact h0)]
    have hne : ((a.size : Int) != (b.size : Int)) = false := by simp [h0]
    have HL := Lib.hid h0
    clear h0
    go_enter Try.func75, Try.ntmps75
    go_wp2_with fail
    go_loopw [5] (fun i wr => ∃ k : Nat, k ≤ a.size ∧ i = .int .i64 k ∧ Hid ((bs a).take k = (bs b).take k) ∧ Hid (Below w.heap.size w wr)) (fun i _ => a.size - (intOf i).toNat)
    case atStart => exact ⟨0, Nat.zero_le _, rfl, rfl, Below.refl _ _⟩
    case round =>
      obtain ⟨k, hka, rfl, HT, HW⟩ := hrel
      by_cases h1 : k < a.size
      · obtain ⟨x, hx, ⟨hx0, hx1⟩, hbx⟩ := byte_at h1
        have hkb : k < b.size := by have := HL.out; omega
        obtain ⟨y, hy, ⟨hy0, hy1⟩, hby⟩ := byte_at hkb
        have HX := Lib.hid hx; have HY := Lib.hid hy
        clear hx hy
        by_cases hxy : x = y
        · subst hxy
          have HN : Hid ((bs a).take (k + 1) = (bs b).take (k + 1)) := take_same HT.out HX.out HY.out
          go_wp2_with fail
          go_region
          go_wp2_with fail
          go_roundw
          case rel => exact ⟨k + 1, by omega, by go_num, HN, HW.out.drew⟩
          case measure => simp [intOf]; omega
        · have bxy : (x != y) = true := bne_iff_ne.2 hxy
          have HR : Hid (aheadB (bs a) (bs b) = decide (x < y)) := HA.out.trans (smB_at HT.out HX.out HY.out hxy)
          clear hxy
          go_wp2_with fail
          go_region
          go_wp2_with fail
          go_region
          go_wp2_with fail
          go_ret
          exact ⟨by rw [HR.out]; rfl, HW.out.drew.drew⟩
      · have HR : Hid (aheadB (bs a) (bs b) = false) := HA.out.trans (smB_end HT.out (by rw [bs_len]; omega))
        go_wp2_with fail
        go_ret
        exact ⟨by rw [HR.out]; rfl, HW.out⟩
  · have HR : Hid (aheadB (bs a) (bs b) = decide (a.size < b.size)) := by
      show _ = _
      unfold aheadB
      rw [bs_len, bs_len, if_neg h0]
    have hne : ((a.size : Int) != (b.size : Int)) = true := bne_iff_ne.2 (by omega)
    clear h0
    go_enter Try.func75, Try.ntmps75
    go_wp2_with fail
    go_ret
    exact ⟨by rw [HR.out]; rfl, Below.refl _ _⟩
end Go.Proofs.Ytmpcoclgcldclaa
