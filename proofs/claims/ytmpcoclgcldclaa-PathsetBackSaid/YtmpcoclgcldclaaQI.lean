/- The walk of pathset.Least, and what it gives. -/
import Derived.Test.YtmpcoclgcldclaaQH
import Derived.Test.YtmpcoclgcldclaaHJ
import Derived.Test.YtmpcoclgcldclaaY3
namespace Go.Proofs.Ytmpcoclgcldclaa
open Go.RowKit
attribute [local go_sem ↓] Go.wp_at_zero Go.wp_at_succ

def onesL : List Int := List.replicate 92 1
theorem onesL_len : onesL.length = 92 := by simp [onesL]
theorem onesL_fine : fineB onesL = true := by decide
theorem onesL_cost : ∀ (u : List Int), symsB 92 u = true → costW onesL u = u.length
  | [], _ => rfl
  | x :: u, h => by
    have h' := symsB_iff.1 h
    have hx := h' x (by simp)
    have hc : cst onesL x = 1 := by
      unfold cst onesL
      exact getD_replicate (by omega)
    have := onesL_cost u (symsB_iff.2 fun y hy => h' y (by simp [hy]))
    unfold costW
    rw [hc, this]
    simp only [List.length_cons]
    omega
theorem paths_ok : pathsD.Ok := chainD_ok (by omega) (by omega) (by simp)
theorem paths_K : pathsD.K = 92 := rfl
theorem paths_len : pathsD.A.length = 3 := rfl
/-- the shortest path of a set, if there is one -/
def PLeast (d : D) (o : Option (List Int)) : Prop :=
  match o with
  | none => ∀ u, d.tells u = true → pathsD.tells u = true → 2048 < u.length
  | some W => (d.tells W = true ∧ pathsD.tells W = true ∧ W.length ≤ 2048) ∧ ∀ u, d.tells u = true → pathsD.tells u = true → W.length < u.length ∨ (W.length = u.length ∧ (u = W ∨ smB W u = true))
theorem D.tells_syms {d : D} {u : List Int} (h : d.tells u = true) : symsB d.K u = true := by
  unfold D.tells at h
  simp only [Bool.and_eq_true] at h
  exact h.2.1
theorem pleast_of {d dd : D} {L : List (Int × Int)} {o : Option (List Int)} (hd : d.Ok) (hK : d.K = 92) (hp : ProdOf (fun x y => x && y) d pathsD dd L) (hdd : dd.Ok) (hl : L.length ≤ 65536) (h : LeastP dd onesL 2048 o) : PLeast d o := by
  have ht := fun u => hp.tells hd paths_ok (by rw [hK, paths_K]) hl u
  have htold : ∀ u, Told dd dd.S u ↔ (d.tells u = true ∧ pathsD.tells u = true) := fun u => by
    rw [told_tells hdd, ht u]
    simp only [Bool.and_eq_true]
    constructor
    · exact fun h => h.2
    · exact fun h => ⟨D.tells_syms h.1, h⟩
  have hcost : ∀ u, d.tells u = true → costW onesL u = u.length := fun u hu => onesL_cost u (by rw [← hK]; exact D.tells_syms hu)
  unfold PLeast
  cases o with
  | none =>
    intro u h1 h2
    have := h u ((htold u).2 ⟨h1, h2⟩)
    rw [hcost u h1] at this
    omega
  | some W =>
    obtain ⟨⟨h1, h2, h3⟩, h4⟩ := h
    obtain ⟨w1, w2⟩ := (htold W).1 h1
    rw [hcost W w1] at h4
    refine ⟨⟨w1, w2, by omega⟩, fun u u1 u2 => ?_⟩
    have a1 := h2 u ((htold u).2 ⟨u1, u2⟩)
    have a2 := h3 u ((htold u).2 ⟨u1, u2⟩)
    rw [hcost W w1, hcost u u1] at a1 a2
    by_cases e : u.length = W.length
    · exact .inr ⟨e.symm, a2 (by omega)⟩
    · exact .inl (by omega)
/-- what Least gives -/
def PLeastR (d : D) (w : World) (e : Ending) (w' : World) : Prop :=
  ∃ o, PLeast d o ∧ (∀ W, o = some W → symsB 92 W = true) ∧ e = .returned (.tuple #[.string (strOfNums (bytW (o.getD []))), .bool o.isSome, .int .i64 0]) ∧ Below w.heap.size w w'
theorem meet4 {w w3 : World} {nb cN cA : Nat} {AN AA : Option Addr} {d : D} {a b c e : Value} (hv : Blk w3 nb 25 #[a, b, c, e])
    (hn : w3.ownsRow w.heap.size 3 1 (.slice AN d.N.length cN) d.N.length (d.N.map (Value.int .i64))) (ho : w3.ownsRow w.heap.size 4 1 (.slice AA d.A.length cA) d.A.length (d.A.map Value.bool)) (hw : Below w.heap.size w w3) (hle : w.heap.size ≤ nb) (u0 u1 u2 u3 : Value) :
    Hid (Blk ((((w3.setCell ⟨nb, 0, none⟩ u0).setCell ⟨nb, 1, none⟩ u1).setCell ⟨nb, 2, none⟩ u2).setCell ⟨nb, 3, none⟩ u3) nb 25 #[u0, u1, u2, u3]) ∧
    Hid (DfaR ((((w3.setCell ⟨nb, 0, none⟩ u0).setCell ⟨nb, 1, none⟩ u1).setCell ⟨nb, 2, none⟩ u2).setCell ⟨nb, 3, none⟩ u3) w.heap.size (dfaV d.K d.S AN d.N.length cN AA d.A.length cA) d) ∧
    Hid (Below w.heap.size w ((((w3.setCell ⟨nb, 0, none⟩ u0).setCell ⟨nb, 1, none⟩ u1).setCell ⟨nb, 2, none⟩ u2).setCell ⟨nb, 3, none⟩ u3)) := by
  refine ⟨blkset4 hv _ _ _ _, ⟨AN, cN, AA, cA, rfl, ?_, ?_⟩, hw.trans ((touch4 w3 nb u0 u1 u2 u3).toBelow hw.size (fun k hk e => by omega))⟩
  · exact own_touch hn (touch4 w3 nb u0 u1 u2 u3) (fun k hk e => own_ne_blk hn hv (by decide) (by rw [hk, e]))
  · exact own_touch ho (touch4 w3 nb u0 u1 u2 u3) (fun k hk e => own_ne_blk ho hv (by decide) (by rw [hk, e]))
theorem prodQ_sizes {f : Bool → Bool → Bool} {a b d : D} {er : Int} (h : ProdQ f a b d er) (hs : a.A.length * b.A.length ≤ 65536 ∨ prodOk a b = false) : d.N.length ≤ 9223372036854775807 ∧ d.A.length ≤ 9223372036854775807 := by
  rcases hp : prodOk a b with _ | _
  · obtain ⟨_, rfl⟩ := h.2 hp
    exact ⟨by decide, by decide⟩
  · obtain ⟨_, L, hL⟩ := h.1 hp
    unfold prodOk at hp
    simp only [Bool.and_eq_true, beq_iff_eq] at hp
    obtain ⟨h1, h2, h3⟩ := hp
    rcases hs with hs | hs
    · exact (prod_ok hL (D.right_true.1 h1) (D.right_true.1 h2) h3 hs).1.sizes
    · unfold prodOk at hs
      rw [h1, h2, h3] at hs
      simp at hs
theorem din_same {w : World} {base cN cA : Nat} {AN AA : Option Addr} {d : D} (h : DfaR w base (dfaV d.K d.S AN d.N.length cN AA d.A.length cA) d) (hs : d.N.length ≤ 9223372036854775807 ∧ d.A.length ≤ 9223372036854775807) : DIn w d AN AA := by
  obtain ⟨AN', cN', AA', cA', e', o1, o2⟩ := h
  have e2 : AN = AN' ∧ AA = AA' := by
    unfold dfaV at e'
    simp at e'
    exact ⟨e'.1.1, e'.2.1⟩
  obtain ⟨rfl, rfl⟩ := e2
  exact ⟨hs.1, hs.2, Rd.of_own o1 (Nat.le_refl _), Rd.of_own o2 (Nat.le_refl _)⟩
set_option maxHeartbeats 8000000 in
set_option maxRecDepth 100000 in
theorem pleast_any (d : D) (An Aa : Option Addr) (cn ca : Nat) (w : World) (hd : DIn w d An Aa) (hs : d.A.length * pathsD.A.length ≤ 950 ∨ prodOk d pathsD = false) :
    Calls Try.prog 73 #[dfaV d.K d.S An d.N.length cn Aa d.A.length ca] w (fun e w' => (prodOk d pathsD = true → PLeastR d w e w') ∧ (prodOk d pathsD = false → Ret (.tuple #[.string ByteArray.empty, .bool false, .int .i64 151]) w e w')) := by
  have hs2 : d.A.length * pathsD.A.length ≤ 65536 ∨ prodOk d pathsD = false := hs.imp (fun h => by omega) id
  have HS := Lib.hid hs; have HS2 := Lib.hid hs2
  have HSZ := Lib.hid (fun (dd : D) (er : Int) (h : ProdQ (fun x y => x && y) d pathsD dd er) => prodQ_sizes h hs2)
  have HPS : Hid (pathsD.N.length ≤ 9223372036854775807 ∧ pathsD.A.length ≤ 9223372036854775807) := paths_ok.sizes
  have HC67 := Lib.hid (fun W => paths_any W)
  have HC39 := Lib.hid (fun (W : World) (hb : Below w.heap.size w W) (Abn Aba : Option Addr) (cbn cba : Nat) (h : DIn W pathsD Abn Aba) => both_c (hd.up hb) h cn ca cbn cba hs2)
  obtain ⟨P, hP⟩ : ∃ P, P = pathsD := ⟨_, rfl⟩
  rw [← hP] at HC67 HC39 HSZ HPS HS HS2 ⊢
  have HPE := Lib.hid hP
  clear hs hs2 hP
  have HK0 := Lib.hid (Blk.new w 25 #[.int .i64 d.K, .int .i64 d.S, .slice An d.N.length cn, .slice Aa d.A.length ca])
  have HW0 := Lib.hid (bel_new w (.cells #[.int .i64 d.K, .int .i64 d.S, .slice An d.N.length cn, .slice Aa d.A.length ca] 25))
  go_enter Try.func73, Try.ntmps73
  go_wp2_with fail
  generalize hw1 : w.alloc (.cells #[.int .i64 d.K, .int .i64 d.S, .slice An d.N.length cn, .slice Aa d.A.length ca] 25) = w1 at HK0 HW0 ⊢
  clear hw1
  generalize hB : w.heap.size = B at HK0 ⊢
  have HB := Lib.hid hB; clear hB
  have HW1 : Hid (Below w.heap.size w w1.drew) := HW0.out.drew
  have HK1 := Lib.hid HK0.out.drew
  obtain ⟨⟨p0, p1, p2, p3⟩, _⟩ := blk4 HK0.out
  have hBl : B < w1.heap.size := HK0.out.lt
  have hBm1 : ¬ B = w1.heap.size := by omega
  go_cut [5, 6] (fun v5 v6 wx => ∃ (nb : Nat) (dd : D) (er : Int) (AN : Option Addr) (cN : Nat) (AA : Option Addr) (cA : Nat), v5 = .pointer (some ⟨nb, 0, none⟩) ∧ v6 = .int .i64 er ∧ Hid (ProdQ (fun x y => x && y) d P dd er) ∧
    Hid (Blk wx nb 25 #[.int .i64 dd.K, .int .i64 dd.S, .slice AN dd.N.length cN, .slice AA dd.A.length cA]) ∧ Hid (DfaR wx w.heap.size (dfaV dd.K dd.S AN dd.N.length cN AA dd.A.length cA) dd) ∧ Hid (Below w.heap.size w wx))
  case first =>
    go_region_held3 (fun w' => w'.cell? ⟨B, 0, none⟩ = some (.int .i64 d.K) ∧ w'.cell? ⟨B, 1, none⟩ = some (.int .i64 d.S) ∧ w'.cell? ⟨B, 2, none⟩ = some (.slice An d.N.length cn) ∧ w'.cell? ⟨B, 3, none⟩ = some (.slice Aa d.A.length ca))
      (first
        | go_keep
        | (go_split_ands; refine ⟨?_, ?_, ?_, ?_⟩ <;> (rw [keep4 _ hBm2]; assumption))
        | (go_split_ands; refine ⟨?_, ?_, ?_, ?_⟩ <;> (rw [keep4 _ hBm1]; assumption)))
      (first
        | (go_at_call 67
           refine (HC67.out _).mono ?_
           rintro e w2 ⟨v2, rfl, hd2, hb2⟩
           obtain ⟨PN, pn, PA, pa, rfl, hdi2⟩ := hd2.din HPS.out
           have HW2 : Hid (Below w.heap.size w w2) := bel_step HW1.out hb2
           have HK2 : Hid (Blk w2 B 25 #[.int .i64 d.K, .int .i64 d.S, .slice An d.N.length cn, .slice Aa d.A.length ca]) := blk_below HK1.out hb2
           have HDI := Lib.hid hdi2
           obtain ⟨⟨r0, r1, r2, r3⟩, _⟩ := blk4 HK2.out
           have hBn2 : B < w2.heap.size := HK2.out.lt
           have hBm2 : ¬ B = w2.heap.size := by omega
           clear hd2 hb2 hdi2)
        | (go_at_call 67
           refine (HC67.out _).mono ?_
           rintro e w2 ⟨v2, rfl, hd2, hb2⟩
           obtain ⟨PN, pn, PA, pa, rfl, hdi2⟩ := hd2.din HPS.out
           have HW2 : Hid (Below w.heap.size w w2) := bel_step (bel_alloc HW1.out (.cells #[.int .i64 0, .int .i64 0, .slice none 0 0, .slice none 0 0] 25)) hb2
           have HK2 : Hid (Blk w2 B 25 #[.int .i64 d.K, .int .i64 d.S, .slice An d.N.length cn, .slice Aa d.A.length ca]) := blk_below (HK1.out.alloc (.cells #[.int .i64 0, .int .i64 0, .slice none 0 0, .slice none 0 0] 25)) hb2
           have HDI := Lib.hid hdi2
           have HV2 : Hid (Blk w2 w1.heap.size 25 #[.int .i64 0, .int .i64 0, .slice none 0 0, .slice none 0 0]) := blk_below (Blk.new w1.drew 25 #[.int .i64 0, .int .i64 0, .slice none 0 0, .slice none 0 0]) hb2
           obtain ⟨⟨r0, r1, r2, r3⟩, _⟩ := blk4 HK2.out
           have hBn2 : B < w2.heap.size := HK2.out.lt
           have hBm2 : ¬ B = w2.heap.size := by omega
           clear hd2 hb2 hdi2)
        | (go_at_call 39
           refine (HC39.out _ ?_ _ _ _ _ ?_).mono ?_
           (exact HW2.out)
           (exact HDI.out)
           rintro e w3 ⟨dd, er, hq, v3, rfl, hd3, hb3⟩
           obtain ⟨AN, cN, AA, cA, rfl, ho1, ho2⟩ := hd3
           have HQ := Lib.hid hq
           have HW3 : Hid (Below w.heap.size w w3) := bel_step HW2.out hb3
           have HK3 : Hid (Blk w3 B 25 #[.int .i64 d.K, .int .i64 d.S, .slice An d.N.length cn, .slice Aa d.A.length ca]) := blk_below HK2.out hb3
           have HO1 : Hid (w3.ownsRow w.heap.size 3 1 (.slice AN dd.N.length cN) dd.N.length (dd.N.map (Value.int .i64))) := ho1.mono HW2.out.size
           have HO2 : Hid (w3.ownsRow w.heap.size 4 1 (.slice AA dd.A.length cA) dd.A.length (dd.A.map Value.bool)) := ho2.mono HW2.out.size
           have HV3 := Lib.hid (blk_below HV2.out hb3)
           obtain ⟨⟨t0, t1, t2, t3⟩, z0, z1, z2, z3⟩ := blk4 HV3.out
           obtain ⟨⟨s0, s1, s2, s3⟩, _⟩ := blk4 HK3.out
           have hnw := World.new_ne w3 _ s0
           clear hb3 hq ho1 ho2)
        | (go_at_call 39
           refine (HC39.out _ ?_ _ _ _ _ ?_).mono ?_
           (exact HW2.out)
           (exact HDI.out)
           rintro e w3 ⟨dd, er, hq, v3, rfl, hd3, hb3⟩
           obtain ⟨AN, cN, AA, cA, rfl, ho1, ho2⟩ := hd3
           have HQ := Lib.hid hq
           have HW3 : Hid (Below w.heap.size w w3) := bel_step HW2.out hb3
           have HK3 : Hid (Blk w3 B 25 #[.int .i64 d.K, .int .i64 d.S, .slice An d.N.length cn, .slice Aa d.A.length ca]) := blk_below HK2.out hb3
           have HO1 : Hid (w3.ownsRow w.heap.size 3 1 (.slice AN dd.N.length cN) dd.N.length (dd.N.map (Value.int .i64))) := ho1.mono HW2.out.size
           have HO2 : Hid (w3.ownsRow w.heap.size 4 1 (.slice AA dd.A.length cA) dd.A.length (dd.A.map Value.bool)) := ho2.mono HW2.out.size
           obtain ⟨⟨s0, s1, s2, s3⟩, _⟩ := blk4 HK3.out
           have hnw := World.new_ne w3 _ s0
           clear hb3 hq ho1 ho2)
        | (go_at_call 39
           refine (HC39.out _ ?_ _ _ _ _ ?_).mono ?_
           (exact (bel_alloc HW2.out (.cells #[.int .i64 0, .int .i64 0, .slice none 0 0, .slice none 0 0] 25)))
           (exact (HDI.out.alloc (.cells #[.int .i64 0, .int .i64 0, .slice none 0 0, .slice none 0 0] 25)))
           rintro e w3 ⟨dd, er, hq, v3, rfl, hd3, hb3⟩
           obtain ⟨AN, cN, AA, cA, rfl, ho1, ho2⟩ := hd3
           have HQ := Lib.hid hq
           have HW3 : Hid (Below w.heap.size w w3) := bel_step (bel_alloc HW2.out (.cells #[.int .i64 0, .int .i64 0, .slice none 0 0, .slice none 0 0] 25)) hb3
           have HK3 : Hid (Blk w3 B 25 #[.int .i64 d.K, .int .i64 d.S, .slice An d.N.length cn, .slice Aa d.A.length ca]) := blk_below (HK2.out.alloc (.cells #[.int .i64 0, .int .i64 0, .slice none 0 0, .slice none 0 0] 25)) hb3
           have HO1 : Hid (w3.ownsRow w.heap.size 3 1 (.slice AN dd.N.length cN) dd.N.length (dd.N.map (Value.int .i64))) := ho1.mono (bel_alloc HW2.out (.cells #[.int .i64 0, .int .i64 0, .slice none 0 0, .slice none 0 0] 25)).size
           have HO2 : Hid (w3.ownsRow w.heap.size 4 1 (.slice AA dd.A.length cA) dd.A.length (dd.A.map Value.bool)) := ho2.mono (bel_alloc HW2.out (.cells #[.int .i64 0, .int .i64 0, .slice none 0 0, .slice none 0 0] 25)).size
           have HV3 := Lib.hid (blk_below (Blk.new w2 25 #[.int .i64 0, .int .i64 0, .slice none 0 0, .slice none 0 0]) hb3)
           obtain ⟨⟨t0, t1, t2, t3⟩, z0, z1, z2, z3⟩ := blk4 HV3.out
           obtain ⟨⟨s0, s1, s2, s3⟩, _⟩ := blk4 HK3.out
           have hnw := World.new_ne w3 _ s0
           clear hb3 hq ho1 ho2))
    · go_wp2_with fail
      go_meet
      exact ⟨w3.heap.size, dd, er, AN, cN, AA, cA, rfl, rfl, HQ, Blk.new _ _ _, ⟨_, _, _, _, rfl, HO1.out.alloc _, HO2.out.alloc _⟩, bel_alloc HW3.out _⟩
    · go_wp2_with fail
      go_meet
      have hm := meet4 HV3.out HO1.out HO2.out HW3.out HW2.out.size (.int .i64 dd.K) (.int .i64 dd.S) (.slice AN dd.N.length cN) (.slice AA dd.A.length cA)
      exact ⟨w2.heap.size, dd, er, AN, cN, AA, cA, rfl, rfl, HQ, hm⟩
    · go_wp2_with fail
      go_meet
      have hm := meet4 HV3.out HO1.out HO2.out HW3.out HW1.out.size (.int .i64 dd.K) (.int .i64 dd.S) (.slice AN dd.N.length cN) (.slice AA dd.A.length cA)
      exact ⟨w1.heap.size, dd, er, AN, cN, AA, cA, rfl, rfl, HQ, hm⟩
  case rest =>
    clear p0 p1 p2 p3 hBl hBm1 HK0 HK1 HW0 HW1 HC67 HC39
    obtain ⟨nb, dd, er, AN, cN, AA, cA, rfl, rfl, HQ, HKD, HDR, HW⟩ := hcut
    rcases hp : prodOk d P with _ | _
    · obtain ⟨rfl, _⟩ := HQ.out.2 hp
      go_wp2_with fail
      go_returns
      exact ⟨(fun h => by cases hp.symm.trans h), (fun _ => ⟨rfl, HW.out⟩)⟩
    · obtain ⟨rfl, L, hL⟩ := HQ.out.1 hp
      obtain ⟨_, _, _, _, hv, hdi⟩ := HDR.out.din (HSZ.out _ _ HQ.out)
      have hpp := hp
      have HP := Lib.hid hp
      unfold prodOk at hpp
      simp only [Bool.and_eq_true, beq_iff_eq] at hpp
      obtain ⟨h1, h2, h3⟩ := hpp
      have hda := D.right_true.1 h1
      have hPa := D.right_true.1 h2
      have hs1 : d.A.length * P.A.length ≤ 950 := by
        rcases HS.out with h | h
        · exact h
        · rw [hp] at h; cases h
      obtain ⟨hdo, hdl, hdk⟩ := prod_ok hL hda hPa h3 (by omega)
      have hPK : P.K = 92 := by rw [HPE.out]; rfl
      have hdd92 : dd.K = 92 := by rw [hdk, h3, hPK]
      have HFIT : Hid (Fit dd onesL) := ⟨hdo, by rw [onesL_len, hdd92]; rfl, onesL_fine⟩
      have HPL : Hid (∀ o, LeastP dd onesL 2048 o → PLeast d o) := fun o ho => pleast_of hda (by rw [h3, hPK]) (by rw [← HPE.out]; exact hL) hdo (by have := hL.inv.len hda hPa h3; omega) ho
      have HSY : Hid (∀ u, d.tells u = true → symsB 92 u = true) := fun u hu => by have h := D.tells_syms hu; rw [h3, hPK] at h; exact h
      have hdl2 : dd.A.length ≤ 950 := by omega
      have HDI := Lib.hid (din_same HDR.out (HSZ.out _ _ HQ.out))
      have c109 : ∀ (W : World) (b : Nat), b < W.heap.size → W.cell? ⟨b, 0, none⟩ = some (.int .i64 1) → Calls Try.prog 109 #[.slice (some ⟨b, 0, none⟩) 1 1, .int .i64 92] W fun e w' => ∃ v', e = .returned v' ∧ w'.ownsRow W.heap.size 3 1 v' 92 (List.replicate 92 (.int .i64 1)) ∧ Below W.heap.size W w' :=
        fun W b hb hx => repeat_any 1 92 b 0 1 W (by omega) (by omega) hb hx
      have c48 : ∀ (W : World) (AR : Option Addr) (cR : Nat), DIn W dd AN AA → WIn W onesL AR → Calls Try.prog 48 #[dfaV dd.K dd.S AN dd.N.length cN AA dd.A.length cA, .slice AR 92 cR, .int .i64 2048] W (LeastR dd onesL 2048 W) := fun W AR cR h1 h2 => by
        have h := least_yes dd onesL 2048 AN AA AR cN cA cR W h1 h2 HFIT.out hdl2
        rw [onesL_len] at h
        exact h
      have C109 := Lib.hid c109; have C48 := Lib.hid c48
      obtain ⟨⟨p0, p1, p2, p3⟩, _⟩ := blk4 HKD.out
      have hBl : nb < _ := HKD.out.lt
      clear c109 c48 hv h1 h2 h3 hda hPa hs1 hdo hdl hdk hPK hdd92 HS HS2 HSZ hL hp
      go_upto_region 4 with fail
      go_cut [6, 7, 8] (fun v6 v7 v8 wx => ∃ (o : Option (List Int)) (A : Option Addr) (c : Nat), v6 = .int .i64 0 ∧ v7 = .slice A (o.getD []).length c ∧ v8 = .bool o.isSome ∧ Hid (PLeast d o) ∧ Hid (∀ W, o = some W → W.length ≤ 100000) ∧ Hid (Rd wx wx.heap.size A ((o.getD []).map (Value.int .i64))) ∧ Hid (Below w.heap.size w wx))
      case first =>
        go_region_held3 (fun w' => w'.cell? ⟨nb, 0, none⟩ = some (.int .i64 dd.K) ∧ w'.cell? ⟨nb, 1, none⟩ = some (.int .i64 dd.S) ∧ w'.cell? ⟨nb, 2, none⟩ = some (.slice AN dd.N.length cN) ∧ w'.cell? ⟨nb, 3, none⟩ = some (.slice AA dd.A.length cA))
          (go_keep)
          (first
            | (go_at_call 109
               refine (C109.out _ _ ?_ ?_).mono ?_
               (simp)
               (exact Blk.cell (Blk.new _ 3 #[.int .i64 1]) 0)
               rintro e w4 ⟨v4, rfl, ho4, hb4⟩
               obtain ⟨AR, cR, rfl⟩ := own_form ho4
               have HW4 := Lib.hid (bel_step (bel_alloc HW.out.drew (.cells #[.int .i64 1] 3)) hb4)
               have HK4 := Lib.hid (blk_below (HKD.out.drew.alloc (.cells #[.int .i64 1] 3)) hb4)
               have HDI4 := Lib.hid ((HDI.out.drew.alloc (.cells #[.int .i64 1] 3)).up hb4)
               have HWI4 : Hid (WIn w4 onesL AR) := ⟨by rw [onesL_len]; decide, by unfold onesL; rw [List.map_replicate]; exact Rd.of_own ho4 (Nat.le_refl _)⟩
               obtain ⟨⟨r0, r1, r2, r3⟩, _⟩ := blk4 HK4.out
               have hBn4 := HK4.out.lt
               clear ho4 hb4)
            | (go_at_call 48
               refine (C48.out _ _ _ HDI4.out HWI4.out).mono ?_
               rintro e w5 ⟨o, A, c, rfl, hl, hn, hlen, hr, hb5⟩
               have HW5 := Lib.hid (bel_step HW4.out hb5)
               have HK5 := Lib.hid (blk_below HK4.out hb5)
               have HL5 := Lib.hid (HPL.out _ hl)
               have HR5 := Lib.hid hr
               have HN5 : Hid (∀ W, o = some W → W.length ≤ 100000) := fun W hW => by have := hlen W hW; omega
               obtain ⟨⟨s0, s1, s2, s3⟩, _⟩ := blk4 HK5.out
               clear hl hn hlen hr hb5))
        all_goals
          go_wp2_with fail
          go_meet
          exact ⟨o, A, c, rfl, rfl, rfl, HL5, HN5, HR5, HW5⟩
      case rest =>
        clear p0 p1 p2 p3 hBl
        obtain ⟨o, A, c, rfl, rfl, rfl, HL, HN, HR, HW⟩ := hcut
        cases o with
        | none =>
          simp only [Option.getD_none, Option.isSome_none]
          go_wp2_with fail
          go_returns
          exact ⟨(fun _ => ⟨none, HL.out, (fun W h => by cases h), rfl, HW.out⟩), (fun h => by cases h.symm.trans HP.out)⟩
        | some W =>
          simp only [Option.getD_some, Option.isSome_some]
          have HS92 : Hid (symsB 92 W = true) := HSY.out W HL.out.1.1
          have HTV := Lib.hid (textV_yes HS92.out)
          have c110 := fun Wd (h : WIn Wd W A) => symFrom_any W A c (HN.out W rfl) Wd h
          rw [HTV.out] at c110
          have C110 := Lib.hid c110
          have HWI : Hid (WIn _ W A) := ⟨by have := HN.out W rfl; omega, HR.out⟩
          clear c110
          go_wp2_with fail
          refine (C110.out _ HWI.out).mono ?_
          rintro e w6 ⟨rfl, hb6⟩
          have HW6 := Lib.hid (bel_step HW.out hb6)
          clear hb6
          go_wp2_with fail
          go_returns
          exact ⟨(fun _ => ⟨some W, HL.out, (fun W' h => by cases h; exact HS92.out), rfl, HW6.out⟩), (fun h => by cases h.symm.trans HP.out)⟩
end Go.Proofs.Ytmpcoclgcldclaa
