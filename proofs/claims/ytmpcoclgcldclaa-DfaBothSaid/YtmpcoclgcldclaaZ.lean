/- The walk of layer 15's made: whether an automaton is the product that it should be. -/
import Derived.Test.YtmpcoclgcldclaaY3
import Derived.Deep.LoopGhost
namespace Go.Proofs.Ytmpcoclgcldclaa
open Go.RowKit
attribute [local go_sem ↓] Go.wp_at_zero Go.wp_at_succ

abbrev Trip := Int × Int × Int
def flat3 (L : List Trip) : List Value := L.flatMap fun p => [.int .i64 p.1, .int .i64 p.2.1, .int .i64 p.2.2]
theorem flat3_length (L : List Trip) : (flat3 L).length = L.length * 3 := by
  unfold flat3
  induction L with
  | nil => rfl
  | cons p L ih => simp only [List.flatMap_cons, List.length_append, ih, List.length_cons, List.length_nil]; omega
theorem flat3_at : ∀ (L : List Trip) (j : Nat) (p : Trip), L[j]? = some p → (flat3 L)[3 * j]? = some (.int .i64 p.1) ∧ (flat3 L)[3 * j + 1]? = some (.int .i64 p.2.1) ∧ (flat3 L)[3 * j + 2]? = some (.int .i64 p.2.2)
  | [], j, p, h => by simp at h
  | q :: L, 0, p, h => by
    have : q = p := by simpa using h
    subst this
    exact ⟨rfl, rfl, rfl⟩
  | q :: L, j + 1, p, h => by
    have h' : L[j]? = some p := by simpa using h
    obtain ⟨h1, h2, h3⟩ := flat3_at L j p h'
    have e : flat3 (q :: L) = .int .i64 q.1 :: .int .i64 q.2.1 :: .int .i64 q.2.2 :: flat3 L := rfl
    rw [e, show 3 * (j + 1) = 3 * j + 1 + 1 + 1 by omega]
    exact ⟨by simpa using h1, by simpa using h2, by simpa using h3⟩
theorem flat3_append (L M : List Trip) : flat3 (L ++ M) = flat3 L ++ flat3 M := by simp [flat3]
theorem Rd.at3 {w : World} {B : Nat} {A : Option Addr} {L : List Trip} {j : Nat} (h : Rd w B A (flat3 L)) (hj : j < L.length) :
    ∃ b o p, A = some ⟨b, o, none⟩ ∧ b < B ∧ w.cell? ⟨b, o + j * 3, none⟩ = some (.int .i64 p.1) ∧ w.cell? ⟨b, o + j * 3 + 1, none⟩ = some (.int .i64 p.2.1) ∧ w.cell? ⟨b, o + j * 3 + 2, none⟩ = some (.int .i64 p.2.2) ∧ L[j]? = some p := by
  obtain ⟨b, o, e, hb, hc⟩ := h (by rw [flat3_length]; omega)
  obtain ⟨h1, h2, h3⟩ := flat3_at L j L[j] (List.getElem?_eq_getElem hj)
  rw [Nat.mul_comm 3 j] at h1 h2 h3
  exact ⟨b, o, L[j], e, hb, hc _ _ h1, by rw [Nat.add_assoc]; exact hc _ _ h2, by rw [Nat.add_assoc]; exact hc _ _ h3, List.getElem?_eq_getElem hj⟩
theorem Rd.of_own3 {w : World} {base B : Nat} {e : TypeId} {A : Option Addr} {n c : Nat} {L : List Trip} (h : w.ownsRow base e 3 (.slice A n c) n (flat3 L)) (hB : w.heap.size ≤ B) : Rd w B A (flat3 L) := by
  intro hl
  have hn : 0 < n := by have := h.1; omega
  rcases h.2 with ⟨h0, h1⟩ | ⟨g, cap, cur, hv, hb, hh, hnc, hm, hs, hx⟩
  · omega
  · have hA : A = some ⟨g, 0, none⟩ := by injection hv
    refine ⟨g, 0, hA, Nat.lt_of_lt_of_le (lt_of_heap hh) hB, fun j u hu => ?_⟩
    rw [cell_of_row w g _ cur e (0, 0) hh, Nat.zero_add, ← hu, ← hx, List.getElem?_take_of_lt]
    · simp
    · have := (List.getElem?_eq_some_iff.1 hu).1
      have := h.1
      omega
/-- three states that belong together -/
def TripOk (L : List (Int × Int)) (t : Trip) : Prop := (t.2.1, t.2.2) ∈ L ∧ t.1 = plc L (t.2.1, t.2.2)
theorem Try.info89 : (Try.prog.info? 89).map (fun i => (i.zero, i.size, i.bytes)) = some (some (.agg #[.int .i64 0, .int .i64 0, .int .i64 0]), 3, 24) := by kernel_rfl
theorem blkThree {w : World} {g : Nat} {t : TypeId} {a b c : Value} (h : Blk w g t #[a, b, c]) :
    w.cell? ⟨g, 0, none⟩ = some a ∧ w.cell? ⟨g, 1, none⟩ = some b ∧ w.cell? ⟨g, 2, none⟩ = some c :=
  ⟨by rw [h.cell]; rfl, by rw [h.cell]; rfl, by rw [h.cell]; rfl⟩

set_option maxHeartbeats 16000000 in
set_option maxRecDepth 100000 in
theorem made_any (d a b : D) (Dn Da An Aa Bn Ba : Option Addr) (dn da an aa bn ba : Nat) (g : FuncId) (f : Bool → Bool → Bool) (w : World) (L : List (Int × Int))
    (hg : ∀ x y w, Calls Try.prog g #[.bool x, .bool y] w fun e w' => e = .returned (.bool (f x y)) ∧ w = w') (eg : ∀ args w, (callFunc g args).run Try.prog w = .ok (.enter g args) w)
    (hdd : DIn w d Dn Da) (hda : DIn w a An Aa) (hdb : DIn w b Bn Ba) (ha : a.Ok) (hb : b.Ok) (hK : a.K = b.K) (hsz : a.A.length * b.A.length ≤ 144) (hp : ProdOf f a b d L) :
    Calls Try.prog 42 #[dfaV d.K d.S Dn d.N.length dn Da d.A.length da, .int .i64 0, dfaV a.K a.S An a.N.length an Aa a.A.length aa, dfaV b.K b.S Bn b.N.length bn Ba b.A.length ba, .func (.func g) #[] #[]] w (Ret (.bool true) w) := by
  have hpo := prod_ok hp ha hb hK (by omega)
  have hdk : (d.K != a.K) = false := by rw [hp.k]; simp
  have cp := fun (W : World) (h : Below w.heap.size w W) => pairs_any a b An Aa Bn Ba an aa bn ba W ha hb hK (by omega) (hda.up h).rn (hdb.up h).rn
  have cr := fun (W : World) (h : Below w.heap.size w W) => refRight_c (hdd.up h) dn da
  rw [D.right_true.2 hpo.1] at cr
  have CP := Lib.hid cp; have CR := Lib.hid cr
  have HDN := Lib.hid hdd.rn; have HDA := Lib.hid hdd.ra; have HAN := Lib.hid hda.rn; have HAA := Lib.hid hda.ra; have HBN := Lib.hid hdb.rn; have HBA := Lib.hid hdb.ra
  have HP := Lib.hid hp; have HPO := Lib.hid hpo; have HA := Lib.hid ha; have HB := Lib.hid hb; have HK := Lib.hid hK; have HG := Lib.hid hg
  clear cp cr hdd hda hdb ha hb hK hg hp hpo
  have Bd : Hid (BlkD (((w.alloc (.cells #[.int .i64 d.K, .int .i64 d.S, .slice Dn d.N.length dn, .slice Da d.A.length da] 25)).alloc (.cells #[.int .i64 a.K, .int .i64 a.S, .slice An a.N.length an, .slice Aa a.A.length aa] 25)).alloc (.cells #[.int .i64 b.K, .int .i64 b.S, .slice Bn b.N.length bn, .slice Ba b.A.length ba] 25)) w.heap.size d Dn dn Da da) := ((Blk.new w 25 _).alloc _).alloc _
  have Ba' : Hid (BlkD (((w.alloc (.cells #[.int .i64 d.K, .int .i64 d.S, .slice Dn d.N.length dn, .slice Da d.A.length da] 25)).alloc (.cells #[.int .i64 a.K, .int .i64 a.S, .slice An a.N.length an, .slice Aa a.A.length aa] 25)).alloc (.cells #[.int .i64 b.K, .int .i64 b.S, .slice Bn b.N.length bn, .slice Ba b.A.length ba] 25)) (w.heap.size + 1) a An an Aa aa) := by
    have h := (Blk.new (w.alloc (.cells #[.int .i64 d.K, .int .i64 d.S, .slice Dn d.N.length dn, .slice Da d.A.length da] 25)) 25 #[.int .i64 a.K, .int .i64 a.S, .slice An a.N.length an, .slice Aa a.A.length aa]).alloc (.cells #[.int .i64 b.K, .int .i64 b.S, .slice Bn b.N.length bn, .slice Ba b.A.length ba] 25)
    simp only [size_alloc_one] at h
    exact h
  have Bb' : Hid (BlkD (((w.alloc (.cells #[.int .i64 d.K, .int .i64 d.S, .slice Dn d.N.length dn, .slice Da d.A.length da] 25)).alloc (.cells #[.int .i64 a.K, .int .i64 a.S, .slice An a.N.length an, .slice Aa a.A.length aa] 25)).alloc (.cells #[.int .i64 b.K, .int .i64 b.S, .slice Bn b.N.length bn, .slice Ba b.A.length ba] 25)) (w.heap.size + 1 + 1) b Bn bn Ba ba) := by
    have h := Blk.new ((w.alloc (.cells #[.int .i64 d.K, .int .i64 d.S, .slice Dn d.N.length dn, .slice Da d.A.length da] 25)).alloc (.cells #[.int .i64 a.K, .int .i64 a.S, .slice An a.N.length an, .slice Aa a.A.length aa] 25)) 25 #[.int .i64 b.K, .int .i64 b.S, .slice Bn b.N.length bn, .slice Ba b.A.length ba]
    simp only [size_alloc_one] at h
    exact h
  have HW := Lib.hid (bel_alloc (bel_alloc (bel_new w (.cells #[.int .i64 d.K, .int .i64 d.S, .slice Dn d.N.length dn, .slice Da d.A.length da] 25)) (.cells #[.int .i64 a.K, .int .i64 a.S, .slice An a.N.length an, .slice Aa a.A.length aa] 25)) (.cells #[.int .i64 b.K, .int .i64 b.S, .slice Bn b.N.length bn, .slice Ba b.A.length ba] 25))
  go_enter Try.func42, Try.ntmps42
  go_wp2_with fail
  refine (CP.out _ HW.out).mono ?_
  rintro e w1 ⟨PA, pc, LP, rfl, _, hpi, hb1⟩
  have hle : d.A.length ≤ LP.length := by rw [HP.out.len]; exact HP.out.le hpi
  have hld : decide (LP.length < d.A.length) = false := decide_eq_false (by omega)
  have hlp : LP.length ≤ 144 := Nat.le_trans (hpi.len HA.out HB.out HK.out) hsz
  replace Bd := Lib.hid (blk_below Bd.out hb1)
  replace Ba' := Lib.hid (blk_below Ba'.out hb1)
  replace Bb' := Lib.hid (blk_below Bb'.out hb1)
  replace HW := Lib.hid (bel_step HW.out hb1)
  clear hb1 hpi
  obtain ⟨⟨d0, d1, d2, d3⟩, _⟩ := blk4 Bd.out
  go_wp2_with fail
  refine (CR.out _ HW.out).mono ?_
  rintro e w2 ⟨rfl, hb1⟩
  replace Bd := Lib.hid (blk_below Bd.out hb1)
  replace Ba' := Lib.hid (blk_below Ba'.out hb1)
  replace Bb' := Lib.hid (blk_below Bb'.out hb1)
  replace HW := Lib.hid (bel_step HW.out hb1)
  clear hb1 d0 d1 d2 d3
  obtain ⟨⟨d0, d1, d2, d3⟩, _⟩ := blk4 Bd.out
  obtain ⟨⟨a0, a1, a2, a3⟩, _⟩ := blk4 Ba'.out
  obtain ⟨⟨b0, b1, b2, b3⟩, _⟩ := blk4 Bb'.out
  go_wp2_with fail
  have hmS : (a.S, b.S) ∈ L := List.mem_of_getElem? HP.out.inv.start
  have hT0 : ∀ t ∈ [((d.S, a.S, b.S) : Trip)], TripOk L t := by
    intro t ht
    rw [List.mem_singleton.1 ht]
    exact ⟨hmS, by show d.S = plc L (a.S, b.S); rw [HP.out.s, plc_head HP.out.inv.start]⟩
  have HT0 := Lib.hid hT0
  have HTD := Lib.hid (World.ownsRow_lit (base := w.heap.size) (e := 89) (size := 3) w2 #[.int .i64 d.S, .int .i64 a.S, .int .i64 b.S] 1 HW.out.size (by decide) rfl)
  replace Bd := Lib.hid (Bd.out.alloc (.cells #[.int .i64 d.S, .int .i64 a.S, .int .i64 b.S] 89))
  replace Ba' := Lib.hid (Ba'.out.alloc (.cells #[.int .i64 d.S, .int .i64 a.S, .int .i64 b.S] 89))
  replace Bb' := Lib.hid (Bb'.out.alloc (.cells #[.int .i64 d.S, .int .i64 a.S, .int .i64 b.S] 89))
  replace HW := Lib.hid (bel_alloc HW.out (.cells #[.int .i64 d.S, .int .i64 a.S, .int .i64 b.S] 89))
  clear d0 d1 d2 d3 a0 a1 a2 a3 b0 b1 b2 b3 hT0 hmS hle hlp
  go_loopg [12, 13] 4000 (fun gk td i wr => ∃ (k : Nat) (T : List Trip) (TA : Option Addr) (tc : Nat), td = .slice TA T.length tc ∧ i = .int .i64 k ∧ gk = 4000 - k ∧ k ≤ 4000 ∧ T.length ≤ 1 + k * 512 ∧ Hid (∀ t ∈ T, TripOk L t) ∧
      Hid (wr.ownsRow w.heap.size 89 3 (.slice TA T.length tc) T.length (flat3 T)) ∧ Hid (BlkD wr w.heap.size d Dn dn Da da) ∧ Hid (BlkD wr (w.heap.size + 1) a An an Aa aa) ∧ Hid (BlkD wr (w.heap.size + 1 + 1) b Bn bn Ba ba) ∧ Hid (Below w.heap.size w wr))
  case atStart => exact ⟨0, [(d.S, a.S, b.S)], _, _, rfl, rfl, rfl, by omega, by simp, HT0, HTD, Bd, Ba', Bb', HW⟩
  case round =>
    clear HT0 HTD Bd Ba' Bb' HW
    obtain ⟨k, T, TA, tc, rfl, rfl, rfl, hk4, hTl, HTO, HT, Bd, Ba', Bb', HW⟩ := hrel
    by_cases hlt : k < T.length
    · by_cases hk : k < 4000
      · obtain ⟨gt, ot, t, rfl, hgt, hc1, hc2, hc3, hpk⟩ := (Rd.of_own3 HT.out (Nat.le_refl _)).at3 hlt
        obtain ⟨s, x, y⟩ := t
        have htk := HTO.out _ (List.mem_of_getElem? hpk)
        obtain ⟨hm, hs⟩ := htk
        simp only [] at hm hs hc1 hc2 hc3
        have hr := (HP.out.inv.reach _ hm).lt HA.out HB.out HK.out
        obtain ⟨⟨hr1, hr2⟩, hr3, hr4⟩ := hr
        simp only [] at hr1 hr2 hr3 hr4
        have hsl := plc_lt hm
        rw [← hs, ← HP.out.len] at hsl
        obtain ⟨hs1, hs2⟩ := hsl
        have hacc := HP.out.acc_at hm
        rw [← hs] at hacc
        obtain ⟨gd, od, vd, hAd, hgd, hcd, hvd⟩ := HDA.out.bool_ix hs1 hs2
        obtain ⟨ga, oa, va, hAa, hga, hca, hva⟩ := HAA.out.bool_ix hr1 hr2
        obtain ⟨gb, ob, vb, hAb, hgb, hcb, hvb⟩ := HBA.out.bool_ix hr3 hr4
        have hvd' : d.acc s = vd := hvd
        have hva' : a.acc x = va := hva
        have hvb' : b.acc y = vb := hvb
        simp only [] at hacc
        rw [hvd', hva', hvb'] at hacc
        subst hAd hAa hAb hacc
        have HM := Lib.hid hm; have HS := Lib.hid hs
        have HCD : Hid (∀ W, Below w.heap.size w W → W.cell? ⟨gd, od + s.toNat, none⟩ = some (.bool (f va vb))) := fun W hb => (hb.cell (p := ⟨gd, od + s.toNat, none⟩) hgd).trans hcd
        have HCA : Hid (∀ W, Below w.heap.size w W → W.cell? ⟨ga, oa + x.toNat, none⟩ = some (.bool va)) := fun W hb => (hb.cell (p := ⟨ga, oa + x.toNat, none⟩) hga).trans hca
        have HCB : Hid (∀ W, Below w.heap.size w W → W.cell? ⟨gb, ob + y.toNat, none⟩ = some (.bool vb)) := fun W hb => (hb.cell (p := ⟨gb, ob + y.toNat, none⟩) hgb).trans hcb
        clear hvd hva hvb hvd' hva' hvb' hcd hca hcb hm hs hpk
        go_wp2_with fail
        have hq0 := Blk.new wr 89 #[.int .i64 s, .int .i64 x, .int .i64 y]
        have HNB : Hid ((Value.slice (some ⟨gt, ot, none⟩) T.length tc).ownBlock ≠ some wr.heap.size) := fun e => by have := (HT.out.lt _ e).2; omega
        replace HT := Lib.hid (HT.out.alloc (.cells #[.int .i64 s, .int .i64 x, .int .i64 y] 89))
        replace Bd := Lib.hid (Bd.out.alloc (.cells #[.int .i64 s, .int .i64 x, .int .i64 y] 89))
        replace Ba' := Lib.hid (Ba'.out.alloc (.cells #[.int .i64 s, .int .i64 x, .int .i64 y] 89))
        replace Bb' := Lib.hid (Bb'.out.alloc (.cells #[.int .i64 s, .int .i64 x, .int .i64 y] 89))
        replace HW := Lib.hid (bel_alloc HW.out (.cells #[.int .i64 s, .int .i64 x, .int .i64 y] 89))
        clear hc1 hc2 hc3 hgt
        generalize hbp : wr.heap.size = bp at hq0 HNB ⊢
        generalize wr.alloc (.cells #[.int .i64 s, .int .i64 x, .int .i64 y] 89) = W4 at *
        clear hbp
        obtain ⟨⟨d0, d1, d2, d3⟩, _⟩ := blk4 Bd.out
        obtain ⟨⟨a0, a1, a2, a3⟩, _⟩ := blk4 Ba'.out
        obtain ⟨⟨b0, b1, b2, b3⟩, _⟩ := blk4 Bb'.out
        obtain ⟨q0, q1, q2⟩ := blkThree hq0
        have cd0 := HCD.out _ HW.out
        have ca0 := HCA.out _ HW.out
        have cb0 := HCB.out _ HW.out
        have HQ := Lib.hid hq0; clear hq0
        go_region_held3 (fun w' => w'.cell? ⟨w.heap.size, 3, none⟩ = some (.slice (some ⟨gd, od, none⟩) d.A.length da) ∧ w'.cell? ⟨w.heap.size + 1, 3, none⟩ = some (.slice (some ⟨ga, oa, none⟩) a.A.length aa) ∧ w'.cell? ⟨w.heap.size + 1 + 1, 3, none⟩ = some (.slice (some ⟨gb, ob, none⟩) b.A.length ba) ∧
            w'.cell? ⟨bp, 0, none⟩ = some (.int .i64 s) ∧ w'.cell? ⟨bp, 1, none⟩ = some (.int .i64 x) ∧ w'.cell? ⟨bp, 2, none⟩ = some (.int .i64 y) ∧
            w'.cell? ⟨gd, od + s.toNat, none⟩ = some (.bool (f va vb)) ∧ w'.cell? ⟨ga, oa + x.toNat, none⟩ = some (.bool va) ∧ w'.cell? ⟨gb, ob + y.toNat, none⟩ = some (.bool vb))
          (go_keep)
          (first
            | (refine (HG.out _ _ _).mono ?_
               rintro e w' ⟨rfl, rfl⟩))
        have hW4 : Hid (Below w.heap.size w W4.drew) := HW.out.drew
        have hT4 : Hid (W4.drew.ownsRow w.heap.size 89 3 (.slice (some ⟨gt, ot, none⟩) T.length tc) T.length (flat3 T)) := HT.out
        have hBd : Hid (BlkD W4.drew w.heap.size d Dn dn (some ⟨gd, od, none⟩) da) := Bd.out
        have hBa : Hid (BlkD W4.drew (w.heap.size + 1) a An an (some ⟨ga, oa, none⟩) aa) := Ba'.out
        have hBb : Hid (BlkD W4.drew (w.heap.size + 1 + 1) b Bn bn (some ⟨gb, ob, none⟩) ba) := Bb'.out
        have hQ : Hid (Blk W4.drew bp 89 #[.int .i64 s, .int .i64 x, .int .i64 y]) := HQ.out
        go_wp2_with fail
        clear HCD HCA HCB cd0 ca0 cb0 q0 q1 q2 d0 d1 d2 d3 a0 a1 a2 a3 b0 b1 b2 b3 HT Bd Ba' Bb' HQ HW
        have hak : a.K ≤ 512 := HA.out.2.1
        have hak1 : 1 ≤ a.K := HA.out.1
        go_loopw [12, 15, 16, 17, 19] (fun td i _ _ _ wr => ∃ (c : Nat) (T' : List Trip) (TA' : Option Addr) (tc' : Nat), td = .slice TA' T'.length tc' ∧ i = .int .i64 c ∧ (c : Int) ≤ a.K ∧ T'.length ≤ 1 + k * 512 + c ∧ Hid (∀ t ∈ T', TripOk L t) ∧
            Hid (wr.ownsRow w.heap.size 89 3 (.slice TA' T'.length tc') T'.length (flat3 T')) ∧ Hid ((Value.slice TA' T'.length tc').ownBlock ≠ some bp) ∧ Hid (Blk wr bp 89 #[.int .i64 s, .int .i64 x, .int .i64 y]) ∧
            Hid (BlkD wr w.heap.size d Dn dn (some ⟨gd, od, none⟩) da) ∧ Hid (BlkD wr (w.heap.size + 1) a An an (some ⟨ga, oa, none⟩) aa) ∧ Hid (BlkD wr (w.heap.size + 1 + 1) b Bn bn (some ⟨gb, ob, none⟩) ba) ∧ Hid (Below w.heap.size w wr))
          (fun _ i _ _ _ _ => (a.K - intOf i).toNat)
        case atStart => exact ⟨0, T, _, _, rfl, rfl, by omega, by omega, HTO, hT4, HNB, hQ, hBd, hBa, hBb, hW4⟩
        case round =>
          clear hW4 hT4 hBd hBa hBb hQ HTO HNB
          obtain ⟨c, T', TA', tc', rfl, rfl, hcK, hTl', HTO, HT, HNB, HQ, Bd, Ba', Bb', HW⟩ := hrel
          obtain ⟨⟨a0, a1, a2, a3⟩, _⟩ := blk4 Ba'.out
          by_cases hcl : (c : Int) < a.K
          · obtain ⟨⟨d0, d1, d2, d3⟩, _⟩ := blk4 Bd.out
            obtain ⟨⟨b0, b1, b2, b3⟩, _⟩ := blk4 Bb'.out
            obtain ⟨q0, q1, q2⟩ := blkThree HQ.out
            have hdK : d.K = a.K := HPO.out.2.2
            have hm1 := HPO.out.1.mul_bd (s := s) ⟨hs1, hs2⟩
            have hm2 := HA.out.mul_bd (s := x) ⟨hr1, hr2⟩
            have hm3 := HB.out.mul_bd (s := y) ⟨hr3, hr4⟩
            have hi1 := HPO.out.1.idx (s := s) (x := c) ⟨hs1, hs2⟩ ⟨by omega, by rw [hdK]; exact hcl⟩
            have hi2 := HA.out.idx (s := x) (x := c) ⟨hr1, hr2⟩ ⟨by omega, hcl⟩
            have hi3 := HB.out.idx (s := y) (x := c) ⟨hr3, hr4⟩ ⟨by omega, by rw [← HK.out]; exact hcl⟩
            have HDK := Lib.hid hdK; clear hdK
            obtain ⟨gnd, ond, qd, hAd, hgnd, hcd, hqd⟩ := (HDN.out.below HW.out).int_ix hi1.1 hi1.2
            obtain ⟨gna, ona, qa, hAa, hgna, hca, hqa⟩ := (HAN.out.below HW.out).int_ix hi2.1 hi2.2
            obtain ⟨gnb, onb, qb, hAb, hgnb, hcb, hqb⟩ := (HBN.out.below HW.out).int_ix hi3.1 hi3.2
            have HNEW : Hid (TripOk L (qd, qa, qb)) := by
              have h0 : d.step s c = qd := hqd
              have h1 : a.step x c = qa := hqa
              have h2 : b.step y c = qb := hqb
              have hst := HP.out.step HM.out (y := (c : Int)) ⟨by omega, hcl⟩
              have hcl' := HP.out.inv.closed HM.out (y := (c : Int)) ⟨by omega, hcl⟩
              have hq : stepP a b (x, y) c = (qa, qb) := by show (_, _) = _; rw [h1, h2]
              rw [hq] at hst hcl'
              rw [← HS.out, h0] at hst
              exact ⟨hcl', hst⟩
            subst hAd hAa hAb
            obtain ⟨hi1a, hi1b⟩ := hi1
            obtain ⟨hi2a, hi2b⟩ := hi2
            obtain ⟨hi3a, hi3b⟩ := hi3
            obtain ⟨hm1a, hm1b⟩ := hm1
            obtain ⟨hm2a, hm2b⟩ := hm2
            obtain ⟨hm3a, hm3b⟩ := hm3
            clear hqd hqa hqb
            have v1 : IntKind.i64.wrap (s * d.K) = s * d.K := by rw [IntKind.wrap_i64]; omega
            have v2 : IntKind.i64.wrap (x * a.K) = x * a.K := by rw [IntKind.wrap_i64]; omega
            have v3 : IntKind.i64.wrap (y * b.K) = y * b.K := by rw [IntKind.wrap_i64]; omega
            have v4 : IntKind.i64.wrap (s * d.K + c) = s * d.K + c := by rw [IntKind.wrap_i64]; omega
            have v5 : IntKind.i64.wrap (x * a.K + c) = x * a.K + c := by rw [IntKind.wrap_i64]; omega
            have v6 : IntKind.i64.wrap (y * b.K + c) = y * b.K + c := by rw [IntKind.wrap_i64]; omega
            have hs0' : w.heap.size < wr.heap.size := Bd.out.lt
            have hs1' : w.heap.size + 1 < wr.heap.size := Ba'.out.lt
            have hs2' : w.heap.size + 1 + 1 < wr.heap.size := Bb'.out.lt
            have hs3' : bp < wr.heap.size := HQ.out.lt
            have hs4' : gnd < wr.heap.size := by omega
            have hs5' : gna < wr.heap.size := by omega
            have hs6' : gnb < wr.heap.size := by omega
            go_wp2_with fail
            have nw := World.new_ne wr _ a0
            go_region_held3 (fun w' => w'.cell? ⟨w.heap.size, 0, none⟩ = some (.int .i64 d.K) ∧ w'.cell? ⟨w.heap.size, 2, none⟩ = some (.slice (some ⟨gnd, ond, none⟩) d.N.length dn) ∧ w'.cell? ⟨w.heap.size + 1, 0, none⟩ = some (.int .i64 a.K) ∧ w'.cell? ⟨w.heap.size + 1, 2, none⟩ = some (.slice (some ⟨gna, ona, none⟩) a.N.length an) ∧
                w'.cell? ⟨w.heap.size + 1 + 1, 0, none⟩ = some (.int .i64 b.K) ∧ w'.cell? ⟨w.heap.size + 1 + 1, 2, none⟩ = some (.slice (some ⟨gnb, onb, none⟩) b.N.length bn) ∧
                w'.cell? ⟨bp, 0, none⟩ = some (.int .i64 s) ∧ w'.cell? ⟨bp, 1, none⟩ = some (.int .i64 x) ∧ w'.cell? ⟨bp, 2, none⟩ = some (.int .i64 y) ∧
                w'.cell? ⟨gnd, ond + (s * d.K + c).toNat, none⟩ = some (.int .i64 qd) ∧ w'.cell? ⟨gna, ona + (x * a.K + c).toNat, none⟩ = some (.int .i64 qa) ∧ w'.cell? ⟨gnb, onb + (y * b.K + c).toNat, none⟩ = some (.int .i64 qb)) (go_keep) (fail)
            have hbq : Hid ((Value.slice TA' T'.length tc').ownBlock ≠ some wr.heap.size) := fun e => by have := (HT.out.lt _ e).2; omega
            have hq2 := Lib.hid (Blk.new wr 89 #[.int .i64 qd, .int .i64 qa, .int .i64 qb]).drew
            have hT6 : Hid ((wr.alloc (.cells #[.int .i64 qd, .int .i64 qa, .int .i64 qb] 89)).drew.ownsRow w.heap.size 89 3 (.slice TA' T'.length tc') T'.length (flat3 T')) := HT.out.alloc (.cells #[.int .i64 qd, .int .i64 qa, .int .i64 qb] 89)
            have hQ6 := Lib.hid (HQ.out.alloc (.cells #[.int .i64 qd, .int .i64 qa, .int .i64 qb] 89)).drew
            have hBd := Lib.hid (Bd.out.alloc (.cells #[.int .i64 qd, .int .i64 qa, .int .i64 qb] 89)).drew
            have hBa := Lib.hid (Ba'.out.alloc (.cells #[.int .i64 qd, .int .i64 qa, .int .i64 qb] 89)).drew
            have hBb := Lib.hid (Bb'.out.alloc (.cells #[.int .i64 qd, .int .i64 qa, .int .i64 qb] 89)).drew
            have hW6 := Lib.hid (bel_alloc HW.out (.cells #[.int .i64 qd, .int .i64 qa, .int .i64 qb] 89)).drew
            clear HT Bd Ba' Bb' HQ HW d0 d1 d2 d3 a0 a1 a2 a3 b0 b1 b2 b3 q0 q1 q2 hcd hca hcb nw hi1a hi1b hi2a hi2b hi3a hi3b hm1a hm1b hm2a hm2b hm3a hm3b v1 v2 v3 v4 v5 v6 hs0' hs1' hs2' hs3' hs4' hs5' hs6'
            generalize hbq' : wr.heap.size = bq at hbq hq2 ⊢
            generalize (wr.alloc (.cells #[.int .i64 qd, .int .i64 qa, .int .i64 qb] 89)).drew = W6 at *
            clear hbq'
            have hTb : T'.length ≤ 3000000 := by omega
            go_wp2_with fail
            go_loopw [17, 130] (fun kn i wr => ∃ (j : Nat) (kb : Bool), kn = .bool kb ∧ i = .int .i64 j ∧ j ≤ T'.length ∧
                Hid (wr.ownsRow w.heap.size 89 3 (.slice TA' T'.length tc') T'.length (flat3 T')) ∧ Hid (Blk wr bp 89 #[.int .i64 s, .int .i64 x, .int .i64 y]) ∧ Hid (Blk wr bq 89 #[.int .i64 qd, .int .i64 qa, .int .i64 qb]) ∧
                Hid (BlkD wr w.heap.size d (some ⟨gnd, ond, none⟩) dn (some ⟨gd, od, none⟩) da) ∧ Hid (BlkD wr (w.heap.size + 1) a (some ⟨gna, ona, none⟩) an (some ⟨ga, oa, none⟩) aa) ∧ Hid (BlkD wr (w.heap.size + 1 + 1) b (some ⟨gnb, onb, none⟩) bn (some ⟨gb, ob, none⟩) ba) ∧ Hid (Below w.heap.size w wr))
              (fun _ i _ => T'.length - (intOf i).toNat)
            case atStart => exact ⟨0, false, rfl, rfl, Nat.zero_le _, hT6, hQ6, hq2, hBd, hBa, hBb, hW6⟩
            case round =>
              clear hT6 hQ6 hq2 hBd hBa hBb hW6
              obtain ⟨j, kb, rfl, rfl, hj, HT, HQ, HQ2, Bd, Ba', Bb', HW⟩ := hrel
              by_cases hjl : j < T'.length
              · obtain ⟨gu, ou, u, rfl, hgu, hu1, hu2, hu3, _⟩ := (Rd.of_own3 HT.out (Nat.le_refl _)).at3 hjl
                obtain ⟨us, ux, uy⟩ := u
                simp only [] at hu1 hu2 hu3
                obtain ⟨t0, t1, t2⟩ := blkThree HQ2.out
                have hltq : bq < wr.heap.size := HQ2.out.lt
                have end_ : ∀ kb' : Bool, ∃ (j' : Nat) (kb : Bool), Value.bool kb' = .bool kb ∧ Value.int .i64 ((j : Int) + 1) = .int .i64 j' ∧ j' ≤ T'.length ∧
                    Hid ((wr.alloc (.cells #[.int .i64 us, .int .i64 ux, .int .i64 uy] 89)).ownsRow w.heap.size 89 3 (.slice (some ⟨gu, ou, none⟩) T'.length tc') T'.length (flat3 T')) ∧ Hid (Blk (wr.alloc (.cells #[.int .i64 us, .int .i64 ux, .int .i64 uy] 89)) bp 89 #[.int .i64 s, .int .i64 x, .int .i64 y]) ∧ Hid (Blk (wr.alloc (.cells #[.int .i64 us, .int .i64 ux, .int .i64 uy] 89)) bq 89 #[.int .i64 qd, .int .i64 qa, .int .i64 qb]) ∧
                    Hid (BlkD (wr.alloc (.cells #[.int .i64 us, .int .i64 ux, .int .i64 uy] 89)) w.heap.size d (some ⟨gnd, ond, none⟩) dn (some ⟨gd, od, none⟩) da) ∧ Hid (BlkD (wr.alloc (.cells #[.int .i64 us, .int .i64 ux, .int .i64 uy] 89)) (w.heap.size + 1) a (some ⟨gna, ona, none⟩) an (some ⟨ga, oa, none⟩) aa) ∧ Hid (BlkD (wr.alloc (.cells #[.int .i64 us, .int .i64 ux, .int .i64 uy] 89)) (w.heap.size + 1 + 1) b (some ⟨gnb, onb, none⟩) bn (some ⟨gb, ob, none⟩) ba) ∧ Hid (Below w.heap.size w (wr.alloc (.cells #[.int .i64 us, .int .i64 ux, .int .i64 uy] 89))) :=
                  fun kb' => ⟨j + 1, kb', rfl, by go_num, by omega, HT.out.alloc _, HQ.out.alloc _, HQ2.out.alloc _, Bd.out.alloc _, Ba'.out.alloc _, Bb'.out.alloc _, bel_alloc HW.out _⟩
                have END := Lib.hid end_; clear end_
                cases kb
                · rcases e1 : us == qd with _ | _
                  · go_wp2_with fail
                    go_roundw
                    case rel => exact END.out _
                    case measure => simp [intOf]; omega
                  · rcases e2 : ux == qa with _ | _
                    · go_wp2_with fail
                      go_roundw
                      case rel => exact END.out _
                      case measure => simp [intOf]; omega
                    · rcases e3 : uy == qb with _ | _
                      all_goals
                        go_wp2_with fail
                        go_roundw
                        case rel => exact END.out _
                        case measure => simp [intOf]; omega
                · go_wp2_with fail
                  go_roundw
                  case rel => exact END.out _
                  case measure => simp [intOf]; omega
              · cases kb
                · obtain ⟨t0, t1, t2⟩ := blkThree HQ2.out
                  have hltq : bq < wr.heap.size := HQ2.out.lt
                  obtain ⟨i89, hi89, hz89, hs89, hb89⟩ := info_parts Try.info89
                  have HI := Lib.hid hi89; have HZ := Lib.hid hz89; have HSI := Lib.hid hs89; have HBY := Lib.hid hb89
                  clear hi89 hz89 hs89 hb89
                  have HO3 := Lib.hid (HT.out.alloc (.cells #[.int .i64 qd, .int .i64 qa, .int .i64 qb] 89))
                  go_wp2_with (at_builtin; go_must (refine wpList_append_own_at _ rfl (.tmp 143) (.tmp 145) 90 rfl w.heap.size 89 i89 (.agg #[.int .i64 0, .int .i64 0, .int .i64 0]) 3 24 Try.underlying90 HI.out HZ.out HSI.out HBY.out rfl (by omega) (.slice TA' T'.length tc') T'.length (flat3 T') rfl HO3.out ⟨wr.heap.size, 0, none⟩ 1 1 [.int .i64 qd, .int .i64 qa, .int .i64 qb] rfl rfl (World.news_of_block (cs := #[.int .i64 qd, .int .i64 qa, .int .i64 qb]) (t := 89) (fr := (0, 0)) (heap_alloc_new wr _)) ?c2 ?c3 ?c4 ?c5 ?_))
                  case c2 => intro u hu; rcases List.mem_cons.1 hu with rfl | hu; rfl; rcases List.mem_cons.1 hu with rfl | hu; rfl; rw [List.mem_singleton.1 hu]; rfl
                  case c3 => unfold maxLen; omega
                  case c4 => omega
                  case c5 => have := HW.out.size; simp; omega
                  intro v1 w8 hown1 hgr1 _ hat1
                  obtain ⟨TA2, tc2, rfl⟩ := own_form hown1
                  have HTT : Hid (Touch (fun j => (Value.slice TA' T'.length tc').ownBlock = some j) wr w8) := ((Touch.refl _ wr).alloc _).grown hgr1 fun k hk _ => hk
                  have HLN : Hid ((T' ++ [(qd, qa, qb)]).length = T'.length + 1) := by show _ = _; simp
                  have HT8 : Hid (w8.ownsRow w.heap.size 89 3 (.slice TA2 (T' ++ [(qd, qa, qb)]).length tc2) (T' ++ [(qd, qa, qb)]).length (flat3 (T' ++ [(qd, qa, qb)]))) := by
                    rw [flat3_append, List.length_append]; exact hown1
                  have HNB8 : Hid ((Value.slice TA2 (T' ++ [(qd, qa, qb)]).length tc2).ownBlock ≠ some bp) := by
                    have hlq := HQ.out.lt
                    have e1 : (Value.slice TA2 (T' ++ [(qd, qa, qb)]).length tc2).ownBlock = (Value.slice TA2 (T'.length + 1) tc2).ownBlock := by rw [HLN.out]
                    rw [Hid, e1]
                    rcases hat1 with h | h
                    · rw [h]; exact HNB.out
                    · rw [h]; intro e; injection e with e; omega
                  have HTO8 : Hid (∀ t ∈ T' ++ [(qd, qa, qb)], TripOk L t) := by
                    intro t ht
                    rcases List.mem_append.1 ht with ht | ht
                    · exact HTO.out t ht
                    · rw [List.mem_singleton.1 ht]; exact HNEW.out
                  have HQ8 := Lib.hid (HQ.out.touch HTT.out (fun e => HNB.out e))
                  have Bd8 := Lib.hid (Bd.out.touch HTT.out (fun e => own_ne_blk HT.out Bd.out (by decide) e))
                  have Ba8 := Lib.hid (Ba'.out.touch HTT.out (fun e => own_ne_blk HT.out Ba'.out (by decide) e))
                  have Bb8 := Lib.hid (Bb'.out.touch HTT.out (fun e => own_ne_blk HT.out Bb'.out (by decide) e))
                  have HW8 := Lib.hid (HW.out.trans (HTT.out.toBelow HW.out.size (fun k hk e => by have := (HT.out.lt k e).1; omega)))
                  clear hown1 hgr1 hat1 HTT HT HQ Bd Ba' Bb' HW HO3 t0 t1 t2 HQ2 hbq
                  go_wp2_with fail
                  go_roundw
                  case rel => exact ⟨c + 1, T' ++ [(qd, qa, qb)], _, _, by rw [HLN.out], by go_num, by omega, by rw [HLN.out]; omega, HTO8, HT8, HNB8, HQ8, Bd8, Ba8, Bb8, HW8⟩
                  case measure => simp [intOf]; omega
                · go_wp2_with fail
                  go_roundw
                  case rel => exact ⟨c + 1, T', _, _, rfl, by go_num, by omega, by omega, HTO, HT, HNB, HQ, Bd, Ba', Bb', HW⟩
                  case measure => simp [intOf]; omega
          · have hkn : 1 + k * 512 + c ≤ 1 + (k + 1) * 512 := by omega
            have hgk : 4000 - (k + 1) < 4000 - k := by omega
            go_wp2_with fail
            go_roundg (4000 - (k + 1))
            case measure => exact hgk
            case rel => exact ⟨k + 1, T', _, _, rfl, by go_num, rfl, by omega, by omega, HTO, HT, Bd, Ba', Bb', HW⟩
      · go_wp2_with fail
        go_ret
        exact ⟨rfl, HW.out⟩
    · go_wp2_with fail
      go_ret
      exact ⟨rfl, HW.out⟩
end Go.Proofs.Ytmpcoclgcldclaa
