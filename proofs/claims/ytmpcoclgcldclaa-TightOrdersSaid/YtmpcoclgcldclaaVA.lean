/- The walk of tight's all: does something hold of all that two automata come to together? -/
import Derived.Test.YtmpcoclgcldclaaUA
import Derived.Test.YtmpcoclgcldclaaY
namespace Go.Proofs.Ytmpcoclgcldclaa
open Go.RowKit
attribute [local go_sem ↓] Go.wp_at_zero Go.wp_at_succ

theorem own_cut2 {w : World} {base e g n c : Nat} {T : List (Int × Int)} {p : Int × Int} (h : w.ownsRow base e 2 (.slice (some ⟨g, 0, none⟩) n c) n (flat2 (T ++ [p]))) : w.ownsRow base e 2 (.slice (some ⟨g, 0, none⟩) T.length c) T.length (flat2 T) := by
  have hn : n = T.length + 1 := by
    have := h.1
    rw [flat2_length, List.length_append, List.length_singleton] at this
    omega
  subst hn
  refine ⟨by rw [flat2_length], ?_⟩
  rcases h.2 with ⟨h', _⟩ | ⟨g', cap, cur, h', hb, hh, hnc, hm, hs, hx⟩
  · simp at h'
  · simp only [Value.slice.injEq, Option.some.injEq, Addr.mk.injEq, and_true, true_and] at h'
    obtain ⟨rfl, rfl⟩ := h'
    refine .inr ⟨g, c, cur, rfl, hb, hh, by omega, hm, hs, ?_⟩
    have e1 : flat2 T = (flat2 (T ++ [p])).take (T.length * 2) := by
      rw [flat2_append, List.take_append_of_le_length (by rw [flat2_length]; omega), List.take_of_length_le (by rw [flat2_length]; omega)]
    rw [e1, ← hx, List.take_take]
    congr 1
    omega
/-- the pairs that are known, as the map has them -/
def seenF (L : List (Int × Int)) (p : Int × Int) : Option Value := if p ∈ L then some (.bool true) else none
theorem seenF_one (p : Int × Int) : ∀ x, (if x = p then some (Value.bool true) else none) = seenF [p] x := by
  intro x
  unfold seenF
  simp
theorem seenF_grow {L : List (Int × Int)} {q : Int × Int} : ∀ x, (if x = q then some (Value.bool true) else seenF L x) = seenF (L ++ [q]) x := by
  intro x
  unfold seenF
  by_cases e : x = q
  · subst e; simp
  · by_cases hm : x ∈ L <;> simp [e, hm]
theorem seenF_yes {L : List (Int × Int)} {q : Int × Int} (h : q ∈ L) : (seenF L q).getD (.bool false) = .bool true := by unfold seenF; rw [if_pos h]; rfl
theorem seenF_no {L : List (Int × Int)} {q : Int × Int} (h : q ∉ L) : (seenF L q).getD (.bool false) = .bool false := by unfold seenF; rw [if_neg h]; rfl
/-- what lies in memory: both automata, the map in block gm, the pairs that are to be gone through -/
structure AllW (w wr : World) (a : D) (An : Option Addr) (an : Nat) (Aa : Option Addr) (aa : Nat) (b : D) (Bn : Option Addr) (bn : Nat) (Ba : Option Addr) (ba gm : Nat) (L T : List (Int × Int)) (TA : Option Addr) (tc : Nat) : Prop where
  xa : BlkD wr w.heap.size a An an Aa aa
  xb : BlkD wr (w.heap.size + 1) b Bn bn Ba ba
  map : MapF wr gm L.length pairV (seenF L)
  lo : w.heap.size + 1 < gm
  todo : wr.ownsRow w.heap.size 136 2 (.slice TA T.length tc) T.length (flat2 T)
  bel : Below w.heap.size w wr
section
variable {w wr w2 : World} {a b : D} {An Aa Bn Ba TA : Option Addr} {an aa bn ba gm tc : Nat} {L T : List (Int × Int)}
theorem AllW.up (h : AllW w wr a An an Aa aa b Bn bn Ba ba gm L T TA tc) (hb : Below wr.heap.size wr w2) : AllW w w2 a An an Aa aa b Bn bn Ba ba gm L T TA tc :=
  ⟨blk_below h.xa hb, blk_below h.xb hb, h.map.below hb h.map.lt, h.lo, own_below h.todo hb, bel_step h.bel hb⟩
theorem AllW.alloc (h : AllW w wr a An an Aa aa b Bn bn Ba ba gm L T TA tc) (o : Obj) : AllW w (wr.alloc o) a An an Aa aa b Bn bn Ba ba gm L T TA tc := h.up (bel_new wr o)
theorem AllW.drew (h : AllW w wr a An an Aa aa b Bn bn Ba ba gm L T TA tc) : AllW w wr.drew a An an Aa aa b Bn bn Ba ba gm L T TA tc := ⟨h.xa, h.xb, h.map, h.lo, h.todo, h.bel.drew⟩
theorem AllW.drewN (h : AllW w wr a An an Aa aa b Bn bn Ba ba gm L T TA tc) (n : Nat) : AllW w (wr.drewN n) a An an Aa aa b Bn bn Ba ba gm L T TA tc := h.up (bel_drewN (Below.refl _ _) n)
/-- a pair is written into the map -/
theorem AllW.known {q : Int × Int} (h : AllW w wr a An an Aa aa b Bn bn Ba ba gm L T TA tc) (hm : MapF w2 gm (L.length + 1) pairV (fun x => if x = q then some (.bool true) else seenF L x)) (ht : Touch (fun j => j = gm) wr w2) :
    AllW w w2 a An an Aa aa b Bn bn Ba ba gm (L ++ [q]) T TA tc where
  xa := h.xa.touch ht (Ne.symm (h.map.ne_blk h.xa))
  xb := h.xb.touch ht (Ne.symm (h.map.ne_blk h.xb))
  map := by rw [List.length_append, List.length_singleton]; exact hm.ext seenF_grow
  lo := h.lo
  todo := own_touch h.todo ht (fun k hk e => h.map.ne_own h.todo (by rw [hk, e]))
  bel := h.bel.trans (ht.toBelow h.bel.size (fun k hk e => by have := h.lo; omega))
/-- .. and is put behind those that are to be gone through -/
theorem AllW.push {q : Int × Int} {TA2 : Option Addr} {tc2 n : Nat} (h : AllW w wr a An an Aa aa b Bn bn Ba ba gm L T TA tc) (hn : n = T.length + 1) (ho : w2.ownsRow w.heap.size 136 2 (.slice TA2 n tc2) n (flat2 T ++ [.int .i64 q.1, .int .i64 q.2])) (hg : wr.grownBy w2 (Value.slice TA T.length tc).ownBlock) :
    AllW w w2 a An an Aa aa b Bn bn Ba ba gm L (T ++ [q]) TA2 tc2 := by
  subst hn
  have ht := Touch.ofGrown hg
  refine ⟨h.xa.touch ht (fun e => own_ne_blk h.todo h.xa (by decide) e.symm), h.xb.touch ht (fun e => own_ne_blk h.todo h.xb (by decide) e.symm), h.map.touch ht (fun e => h.map.ne_own h.todo e.symm), h.lo, ?_, h.bel.trans (ht.toBelow h.bel.size (fun k hk e => by have := (h.todo.lt k e.symm).1; omega))⟩
  rw [flat2_append, List.length_append]; exact ho
/-- the last one is taken off -/
theorem AllW.pop {g : Nat} {p : Int × Int} (h : AllW w wr a An an Aa aa b Bn bn Ba ba gm L (T ++ [p]) (some ⟨g, 0, none⟩) tc) : AllW w wr a An an Aa aa b Bn bn Ba ba gm L T (some ⟨g, 0, none⟩) tc :=
  ⟨h.xa, h.xb, h.map, h.lo, own_cut2 h.todo, h.bel⟩
end
/-- does f hold of all that both come to? and nothing turned that was there -/
def AllR (f : Bool → Bool → Bool) (a b : D) (w : World) (e : Ending) (w' : World) : Prop := ∃ r : Bool, e = .returned (.tuple #[.bool r, .int .i64 0]) ∧ (r = true ↔ AllP f a b) ∧ Below w.heap.size w w'
theorem Try.info136 : (Try.prog.info? 136).map (fun i => (i.zero, i.size, i.bytes)) = some (some (.agg #[.int .i64 0, .int .i64 0]), 2, 16) := by kernel_rfl
theorem Try.zero4 : ∀ w, (zeroValue 4).run Try.prog w = .ok (.bool false) w := fun _ => by kernel_rfl
set_option maxHeartbeats 8000000 in
set_option maxRecDepth 100000 in
theorem all_any (a b : D) (Aan Aaa Abn Aba : Option Addr) (can caa cbn cba : Nat) (g : FuncId) (f : Bool → Bool → Bool) (w : World)
    (hg : FnB g f) (eg : ∀ args w, (callFunc g args).run Try.prog w = .ok (.enter g args) w)
    (hda : DIn w a Aan Aaa) (hdb : DIn w b Abn Aba) (ha : a.Ok) (hb : b.Ok) (hK : a.K = b.K) (hsz : a.A.length * b.A.length ≤ 1000000) :
    Calls Try.prog 99 #[dfaV a.K a.S Aan a.N.length can Aaa a.A.length caa, dfaV b.K b.S Abn b.N.length cbn Aba b.A.length cba, .func (.func g) #[] #[]] w (AllR f a b w) := by
  have hkk : (a.K != b.K) = false := by rw [hK]; simp
  obtain ⟨M, hM⟩ : ∃ M, M = a.A.length * b.A.length := ⟨_, rfl⟩
  rw [← hM] at hsz
  have hM' := Lib.hid hM; clear hM
  have ca := fun (W : World) (h : Below w.heap.size w W) => right_c (hda.up h) can caa
  rw [D.right_true.2 ha] at ca
  have cb := fun (W : World) (h : Below w.heap.size w W) => right_c (hdb.up h) cbn cba
  rw [D.right_true.2 hb] at cb
  have CA := Lib.hid ca; have CB := Lib.hid cb
  have HAN := Lib.hid hda.rn; have HAA := Lib.hid hda.ra; have HBN := Lib.hid hdb.rn; have HBA := Lib.hid hdb.ra
  have HA := Lib.hid ha; have HB := Lib.hid hb; have HK := Lib.hid hK; have HG := Lib.hid hg
  have hmm := @run_makeMap Try.prog
  clear ca cb hda hdb ha hb hK hg
  have hk1 : 1 ≤ a.K := HA.out.1
  have hk2 : a.K ≤ 1000 := Int.le_trans HA.out.2.1 (by omega)
  have Ba : Hid (BlkD ((w.alloc (.cells #[.int .i64 a.K, .int .i64 a.S, .slice Aan a.N.length can, .slice Aaa a.A.length caa] 25)).alloc (.cells #[.int .i64 b.K, .int .i64 b.S, .slice Abn b.N.length cbn, .slice Aba b.A.length cba] 25)) w.heap.size a Aan can Aaa caa) := (Blk.new w 25 _).alloc _
  have Bb : Hid (BlkD ((w.alloc (.cells #[.int .i64 a.K, .int .i64 a.S, .slice Aan a.N.length can, .slice Aaa a.A.length caa] 25)).alloc (.cells #[.int .i64 b.K, .int .i64 b.S, .slice Abn b.N.length cbn, .slice Aba b.A.length cba] 25)) (w.heap.size + 1) b Abn cbn Aba cba) := by
    have h := Blk.new (w.alloc (.cells #[.int .i64 a.K, .int .i64 a.S, .slice Aan a.N.length can, .slice Aaa a.A.length caa] 25)) 25 #[.int .i64 b.K, .int .i64 b.S, .slice Abn b.N.length cbn, .slice Aba b.A.length cba]
    simp only [size_alloc_one] at h
    exact h
  have HW := Lib.hid (bel_alloc (bel_new w (.cells #[.int .i64 a.K, .int .i64 a.S, .slice Aan a.N.length can, .slice Aaa a.A.length caa] 25)) (.cells #[.int .i64 b.K, .int .i64 b.S, .slice Abn b.N.length cbn, .slice Aba b.A.length cba] 25))
  go_enter Try.func99, Try.ntmps99
  go_wp2_with fail
  refine (CA.out _ HW.out).mono ?_
  rintro e w1 ⟨rfl, hb1⟩
  replace Ba := Lib.hid (blk_below Ba.out hb1)
  replace Bb := Lib.hid (blk_below Bb.out hb1)
  replace HW := Lib.hid (bel_step HW.out hb1)
  obtain ⟨⟨b0, b1, b2, b3⟩, _⟩ := blk4 Bb.out
  have ltb : w.heap.size + 1 < w1.heap.size := Bb.out.lt
  clear hb1
  go_wp2_with fail
  refine (CB.out _ HW.out).mono ?_
  rintro e w2 ⟨rfl, hb1⟩
  replace Ba := Lib.hid (blk_below Ba.out hb1)
  replace Bb := Lib.hid (blk_below Bb.out hb1)
  replace HW := Lib.hid (bel_step HW.out hb1)
  clear b0 b1 b2 b3 ltb hb1
  obtain ⟨⟨a0, a1, a2, a3⟩, _⟩ := blk4 Ba.out
  obtain ⟨⟨b0, b1, b2, b3⟩, _⟩ := blk4 Bb.out
  have lta : w.heap.size < w2.heap.size := Ba.out.lt
  have ltb : w.heap.size + 1 < w2.heap.size := Bb.out.lt
  have hM0 := MapF.made (w2.alloc (.cells #[.int .i64 a.S, .int .i64 b.S] 136)) pairV
  simp only [size_alloc_one] at hM0
  have HM0 := Lib.hid hM0; clear hM0
  go_wp2_with (refine wpList_insert _ rfl (.tmp 34) (.tmp 35) (.const (.bool true)) 137 rfl keys136 Try.underlying137 (w2.heap.size + 1) 0 (fun _ => none) rfl HM0.out (a.S, b.S) (.bool true) rfl rfl ?_)
  intro w3 hm3 ht3
  have hpr := (Blk.new w2 136 #[.int .i64 a.S, .int .i64 b.S]).alloc (.map #[] 0)
  have hpr3 := hpr.touch ht3 (by omega)
  have hW3 : Below w.heap.size w w3 := ((HW.out.alloc HW.out.size _).alloc (by simp; omega) _).trans (ht3.toBelow (by simp; omega) (fun k hk h => by omega))
  have hBa3 : BlkD w3 w.heap.size a Aan can Aaa caa := ((Ba.out.alloc _).alloc _).touch ht3 (by omega)
  have hBb3 : BlkD w3 (w.heap.size + 1) b Abn cbn Aba cba := ((Bb.out.alloc _).alloc _).touch ht3 (by omega)
  have hsz3 := ht3.size
  simp only [size_alloc_one] at hsz3
  have HLO : w.heap.size + 1 < w2.heap.size + 1 := by omega
  clear Ba Bb HW HM0 hpr ht3 a0 a1 a2 a3 b0 b1 b2 b3
  generalize hgg : w2.heap.size + 1 = gm at *
  have p0 : w3.cell? ⟨w2.heap.size, 0, none⟩ = some (.int .i64 a.S) := by rw [hpr3.cell]; rfl
  have p1 : w3.cell? ⟨w2.heap.size, 1, none⟩ = some (.int .i64 b.S) := by rw [hpr3.cell]; rfl
  have hlp := hpr3.lt
  have hm3' : MapF w3 gm [(a.S, b.S)].length pairV (seenF [(a.S, b.S)]) := hm3.ext (seenF_one (a.S, b.S))
  have HMP := Lib.hid hm3'; have HW := Lib.hid hW3; have Ba := Lib.hid hBa3; have Bb := Lib.hid hBb3; have HGG := Lib.hid hgg
  clear hpr3 hm3 hm3' hW3 hBa3 hBb3 hgg
  go_wp2_with fail
  have HTD := World.ownsRow_lit (base := w.heap.size) (e := 136) (size := 2) w3 #[.int .i64 a.S, .int .i64 b.S] 1 (by omega) (by decide) rfl
  have HAW0 : Hid (AllW w (w3.alloc (.cells #[.int .i64 a.S, .int .i64 b.S] 136)) a Aan can Aaa caa b Abn cbn Aba cba gm [(a.S, b.S)] [(a.S, b.S)] (some ⟨w3.heap.size, 0, none⟩) 1) :=
    ⟨Ba.out.alloc _, Bb.out.alloc _, HMP.out.alloc _, HLO, HTD, bel_alloc HW.out _⟩
  clear HMP p0 p1 Ba Bb HW HTD hlp
  have HO0 := Lib.hid (AOut.init f a b)
  go_loopg [10] (2 * (M - 1) + 1) (fun gk td wr => ∃ (L T : List (Int × Int)) (TA : Option Addr) (tc : Nat), td = .slice TA T.length tc ∧ gk = 2 * (M - L.length) + T.length ∧ Hid (AOut f a b L T) ∧ Hid (AllW w wr a Aan can Aaa caa b Abn cbn Aba cba gm L T TA tc))
  case atStart => exact ⟨[(a.S, b.S)], [(a.S, b.S)], _, _, rfl, rfl, HO0, HAW0⟩
  case round =>
    clear HO0 HAW0
    obtain ⟨L, T, TA, tc, rfl, rfl, HO, HAW⟩ := hrel
    have hLM : L.length ≤ M := by rw [hM'.out]; exact HO.out.len HA.out HB.out HK.out
    rcases List.eq_nil_or_concat T with rfl | ⟨T1, p, hT⟩
    · have HR : Hid (AllP f a b) := fun q hq => HO.out.all hq
      have HBL := Lib.hid HAW.out.bel
      clear HO HAW
      go_wp2_with fail
      go_ret2
      exact ⟨true, rfl, ⟨fun _ => HR.out, fun _ => rfl⟩, HBL.out⟩
    · rw [List.concat_eq_append] at hT
      subst hT
      obtain ⟨p1, p2⟩ := p
      have hlen : (T1 ++ [(p1, p2)]).length = T1.length + 1 := by simp
      have hTl : (T1 ++ [(p1, p2)]).length ≤ L.length := HO.out.le
      obtain ⟨g0, cr, hTA, hgr, hgl⟩ := HAW.out.todo.form (by omega)
      obtain rfl : TA = some ⟨g0, 0, none⟩ := by injection hTA
      clear hTA
      obtain ⟨f1, f2⟩ := flat2_at (T1 ++ [(p1, p2)]) T1.length (p1, p2) (by rw [List.getElem?_append_right (Nat.le_refl _), Nat.sub_self]; rfl)
      have c1 : wr.cell? ⟨g0, T1.length * 2, none⟩ = some (.int .i64 p1) := by rw [HAW.out.todo.cellAt _ (by omega), Nat.mul_comm, f1]
      have c2 : wr.cell? ⟨g0, T1.length * 2 + 1, none⟩ = some (.int .i64 p2) := by rw [HAW.out.todo.cellAt _ (by omega), Nat.mul_comm, f2]
      have hcap : T1.length + 1 ≤ tc := by
        rcases HAW.out.todo.2 with ⟨h', _⟩ | ⟨g', cap, cur, h', _, _, hnc, _⟩
        · simp at h'
        · simp only [Value.slice.injEq, Option.some.injEq, Addr.mk.injEq, and_true, true_and] at h'
          omega
      have hr := (HO.out.reach _ (HO.out.todo (p1, p2) (by simp))).lt HA.out HB.out HK.out
      obtain ⟨⟨hr1, hr2⟩, hr3, hr4⟩ := hr
      simp only [] at hr1 hr2 hr3 hr4
      have v1 : IntKind.i64.wrap (((T1.length + 1 : Nat) : Int) - 1) = (T1.length : Nat) := by rw [IntKind.wrap_i64]; omega
      have v2 : IntKind.i64.wrap (T1.length : Int) = (T1.length : Int) := by rw [IntKind.wrap_i64]; omega
      rw [hlen]
      have HLEN := Lib.hid hlen
      clear f1 f2 hlen
      go_wp2_with fail
      have hpr := Blk.new wr 136 #[.int .i64 p1, .int .i64 p2]
      have HNB : Hid ((Value.slice (some ⟨g0, 0, none⟩) T1.length tc).ownBlock ≠ some wr.heap.size) := fun e => by have := (HAW.out.pop.todo.lt _ e).2; omega
      have HAW4 := Lib.hid (HAW.out.pop.alloc (.cells #[.int .i64 p1, .int .i64 p2] 136))
      obtain ⟨ga, oa, va, hAa, hga, hca, hva⟩ := (HAA.out.below HAW4.out.bel).bool_ix hr1 hr2
      obtain ⟨gb, ob, vb, hAb, hgb, hcb, hvb⟩ := (HBA.out.below HAW4.out.bel).bool_ix hr3 hr4
      have HVA : Hid (a.acc p1 = va) := hva
      have HVB : Hid (b.acc p2 = vb) := hvb
      subst hAa hAb
      clear hva hvb c1 c2 hgr hgl hcap v1 v2 HAW
      generalize hbp : wr.heap.size = bp at hpr HNB ⊢
      generalize wr.alloc (.cells #[.int .i64 p1, .int .i64 p2] 136) = W4 at *
      clear hbp
      obtain ⟨⟨a0, a1, a2, a3⟩, _⟩ := blk4 HAW4.out.xa
      obtain ⟨⟨b0, b1, b2, b3⟩, _⟩ := blk4 HAW4.out.xb
      have lta' := HAW4.out.xa.lt
      have ltb' := HAW4.out.xb.lt
      have ltp' := hpr.lt
      have hs3 : ga < W4.heap.size := Nat.lt_of_lt_of_le hga HAW4.out.bel.size
      have hs4 : gb < W4.heap.size := Nat.lt_of_lt_of_le hgb HAW4.out.bel.size
      have q0 : W4.cell? ⟨bp, 0, none⟩ = some (.int .i64 p1) := by rw [hpr.cell]; rfl
      have q1 : W4.cell? ⟨bp, 1, none⟩ = some (.int .i64 p2) := by rw [hpr.cell]; rfl
      have HQ4 := Lib.hid hpr; clear hpr
      obtain ⟨fv, hfv⟩ : ∃ fv, fv = f va vb := ⟨_, rfl⟩
      have HC : Hid (∀ W, Calls Try.prog g #[.bool va, .bool vb] W fun e w' => e = .returned (.bool fv) ∧ W = w') := fun W => by rw [hfv]; exact HG.out va vb W
      have HFV : Hid (f (a.acc p1) (b.acc p2) = fv) := by show _ = _; rw [HVA.out, HVB.out]; exact hfv.symm
      clear hfv
      rcases fv with _ | _
      · have HR : Hid (¬ AllP f a b) := HO.out.no HFV.out
        go_region_held3 (fun w' => w'.cell? ⟨w.heap.size, 3, none⟩ = some (.slice (some ⟨ga, oa, none⟩) a.A.length caa) ∧ w'.cell? ⟨w.heap.size + 1, 3, none⟩ = some (.slice (some ⟨gb, ob, none⟩) b.A.length cba) ∧
            w'.cell? ⟨bp, 0, none⟩ = some (.int .i64 p1) ∧ w'.cell? ⟨bp, 1, none⟩ = some (.int .i64 p2) ∧ w'.cell? ⟨ga, oa + p1.toNat, none⟩ = some (.bool va) ∧ w'.cell? ⟨gb, ob + p2.toNat, none⟩ = some (.bool vb))
          (first | go_keep | trivial)
          (first | (refine (HC.out _).mono ?_; rintro e w' ⟨rfl, rfl⟩))
        go_wp2_with fail
        go_ret2
        exact ⟨false, rfl, ⟨(fun h => by cases h), fun h => absurd h HR.out⟩, HAW4.out.bel.drew⟩
      · have HI0 := Lib.hid (HO.out.open_ HFV.out)
        have HMS0 : Hid (2 * (M - L.length) + T1.length < 2 * (M - L.length) + (T1.length + 1)) := by show _ < _; omega
        go_region_held3 (fun w' => w'.cell? ⟨w.heap.size, 3, none⟩ = some (.slice (some ⟨ga, oa, none⟩) a.A.length caa) ∧ w'.cell? ⟨w.heap.size + 1, 3, none⟩ = some (.slice (some ⟨gb, ob, none⟩) b.A.length cba) ∧
            w'.cell? ⟨bp, 0, none⟩ = some (.int .i64 p1) ∧ w'.cell? ⟨bp, 1, none⟩ = some (.int .i64 p2) ∧ w'.cell? ⟨ga, oa + p1.toNat, none⟩ = some (.bool va) ∧ w'.cell? ⟨gb, ob + p2.toNat, none⟩ = some (.bool vb))
          (first | go_keep | trivial)
          (first | (refine (HC.out _).mono ?_; rintro e w' ⟨rfl, rfl⟩))
        have HAW5 := Lib.hid HAW4.out.drew
        have HQ5 : Hid (Blk W4.drew bp 136 #[.int .i64 p1, .int .i64 p2]) := HQ4.out.drew
        clear HAW4 HQ4 HO HFV HC q0 q1 a1 a2 a3 b0 b1 b2 b3 hca hcb hs3 hs4 ltp' ltb'
        go_wp2_with fail
        clear a0 lta'
        generalize W4.drew = W5 at HAW5 HQ5 ⊢
        go_loopw [10, 70] (fun td x wi => ∃ (y : Nat) (L' T' : List (Int × Int)) (TA' : Option Addr) (tc' : Nat), td = .slice TA' T'.length tc' ∧ x = .int .i64 y ∧ (y : Int) ≤ a.K ∧ Hid (AIn f a b L' T' (p1, p2) y) ∧
            Hid (AllW w wi a Aan can (some ⟨ga, oa, none⟩) caa b Abn cbn (some ⟨gb, ob, none⟩) cba gm L' T' TA' tc') ∧ Hid (Blk wi bp 136 #[.int .i64 p1, .int .i64 p2]) ∧ Hid ((Value.slice TA' T'.length tc').ownBlock ≠ some bp) ∧
            Hid (2 * (M - L'.length) + T'.length < 2 * (M - L.length) + (T1.length + 1))) (fun _ x _ => (a.K - intOf x).toNat)
        case atStart => exact ⟨0, L, T1, _, _, rfl, rfl, by omega, HI0, HAW5, HQ5, HNB, HMS0⟩
        case round =>
          clear HI0 HAW5 HQ5 HNB HMS0
          obtain ⟨y, L', T', TA', tc', rfl, rfl, hyK, HI, HAW, HQ, HNB, HMS⟩ := hrel
          have hLM' : L'.length ≤ M := by rw [hM'.out]; exact HI.out.len HA.out HB.out HK.out
          have hTL' : T'.length ≤ L'.length := HI.out.le
          by_cases hyl : (y : Int) < a.K
          · obtain ⟨⟨a0, a1, a2, a3⟩, _⟩ := blk4 HAW.out.xa
            obtain ⟨⟨b0, b1, b2, b3⟩, _⟩ := blk4 HAW.out.xb
            have g0 : wr.cell? ⟨bp, 0, none⟩ = some (.int .i64 p1) := by rw [HQ.out.cell]; rfl
            have g1 : wr.cell? ⟨bp, 1, none⟩ = some (.int .i64 p2) := by rw [HQ.out.cell]; rfl
            have hm1 := HA.out.mul_bd (s := p1) ⟨hr1, hr2⟩
            have hm2 := HB.out.mul_bd (s := p2) ⟨hr3, hr4⟩
            have hi1 := HA.out.idx (s := p1) (x := y) ⟨hr1, hr2⟩ ⟨by omega, hyl⟩
            have hi2 := HB.out.idx (s := p2) (x := y) ⟨hr3, hr4⟩ ⟨by omega, by rw [← HK.out]; exact hyl⟩
            obtain ⟨gna, ona, qa, hAa, hgna, hca, hqa⟩ := (HAN.out.below HAW.out.bel).int_ix hi1.1 hi1.2
            obtain ⟨gnb, onb, qb, hAb, hgnb, hcb, hqb⟩ := (HBN.out.below HAW.out.bel).int_ix hi2.1 hi2.2
            have HSP : Hid (stepP a b (p1, p2) y = (qa, qb)) := by
              have h1 : a.step p1 y = qa := hqa
              have h2 : b.step p2 y = qb := hqb
              show (_, _) = _
              rw [h1, h2]
            subst hAa hAb
            obtain ⟨hi1a, hi1b⟩ := hi1
            obtain ⟨hi2a, hi2b⟩ := hi2
            obtain ⟨hm1a, hm1b⟩ := hm1
            obtain ⟨hm2a, hm2b⟩ := hm2
            clear hqa hqb
            have v1 : IntKind.i64.wrap (p1 * a.K) = p1 * a.K := by rw [IntKind.wrap_i64]; omega
            have v2 : IntKind.i64.wrap (p2 * b.K) = p2 * b.K := by rw [IntKind.wrap_i64]; omega
            have v3 : IntKind.i64.wrap (p1 * a.K + y) = p1 * a.K + y := by rw [IntKind.wrap_i64]; omega
            have v4 : IntKind.i64.wrap (p2 * b.K + y) = p2 * b.K + y := by rw [IntKind.wrap_i64]; omega
            have hs0 : w.heap.size < wr.heap.size := HAW.out.xa.lt
            have hs1 : w.heap.size + 1 < wr.heap.size := HAW.out.xb.lt
            have hs2 : bp < wr.heap.size := HQ.out.lt
            have hs3 : gna < wr.heap.size := by omega
            have hs4 : gnb < wr.heap.size := by omega
            go_wp2_with fail
            have nw := World.new_ne wr _ a0
            go_region_held3 (fun w' => w'.cell? ⟨w.heap.size, 0, none⟩ = some (.int .i64 a.K) ∧ w'.cell? ⟨w.heap.size, 2, none⟩ = some (.slice (some ⟨gna, ona, none⟩) a.N.length can) ∧ w'.cell? ⟨w.heap.size + 1, 0, none⟩ = some (.int .i64 b.K) ∧ w'.cell? ⟨w.heap.size + 1, 2, none⟩ = some (.slice (some ⟨gnb, onb, none⟩) b.N.length cbn) ∧
                w'.cell? ⟨bp, 0, none⟩ = some (.int .i64 p1) ∧ w'.cell? ⟨bp, 1, none⟩ = some (.int .i64 p2) ∧ w'.cell? ⟨gna, ona + (p1 * a.K + y).toNat, none⟩ = some (.int .i64 qa) ∧ w'.cell? ⟨gnb, onb + (p2 * b.K + y).toNat, none⟩ = some (.int .i64 qb)) (go_keep) (fail)
            have hbq : Hid ((Value.slice TA' T'.length tc').ownBlock ≠ some wr.heap.size) := fun e => by have := (HAW.out.todo.lt _ e).2; omega
            have hq2 := (Blk.new wr 136 #[.int .i64 qa, .int .i64 qb]).drew
            have HAW6 := Lib.hid (HAW.out.alloc (.cells #[.int .i64 qa, .int .i64 qb] 136)).drew
            have HQ6 : Hid (Blk (wr.alloc (.cells #[.int .i64 qa, .int .i64 qb] 136)).drew bp 136 #[.int .i64 p1, .int .i64 p2]) := (HQ.out.alloc (.cells #[.int .i64 qa, .int .i64 qb] 136)).drew
            have hne6 : Hid (wr.heap.size ≠ gm) := fun e => by have := HAW.out.map.lt; omega
            clear HAW HQ a0 a1 a2 a3 b0 b1 b2 b3 g0 g1 hca hcb nw hi1a hi1b hi2a hi2b hm1a hm1b hm2a hm2b v1 v2 v3 v4 hs0 hs1 hs2 hs3 hs4
            generalize hbq' : wr.heap.size = bq at hbq hq2 hne6 ⊢
            generalize (wr.alloc (.cells #[.int .i64 qa, .int .i64 qb] 136)).drew = W6 at *
            clear hbq'
            have t0 : W6.cell? ⟨bq, 0, none⟩ = some (.int .i64 qa) := by rw [hq2.cell]; rfl
            have t1 : W6.cell? ⟨bq, 1, none⟩ = some (.int .i64 qb) := by rw [hq2.cell]; rfl
            have HQQ := Lib.hid hq2; clear hq2
            by_cases hmem : (qa, qb) ∈ L'
            · have HMEM := Lib.hid hmem
              have HV := Lib.hid (seenF_yes hmem)
              clear hmem
              go_wp2_with (at_lookup; go_must (refine wpList_look _ rfl (.tmp 96) (.tmp 97) 137 rfl keys136 Try.underlying137 (Try.zero4 _) gm L'.length (seenF L') rfl HAW6.out.map (qa, qb) rfl (.bool true) HV.out ?_))
              clear t0 t1 HQQ hbq hne6
              go_roundw
              case rel => exact ⟨y + 1, L', T', _, _, rfl, by go_num, by omega, HI.out.seen (by rw [HSP.out]; exact HMEM.out), HAW6, HQ6, HNB, HMS⟩
              case measure => simp [intOf]; omega
            · have HMEM := Lib.hid hmem
              have HV := Lib.hid (seenF_no hmem)
              have HIN : Hid (AIn f a b (L' ++ [(qa, qb)]) (T' ++ [(qa, qb)]) (p1, p2) (y + 1)) := by
                have h := HI.out.fresh hyl (by rw [HSP.out]; exact hmem)
                rw [HSP.out] at h
                exact h
              have hLM2 : (L' ++ [(qa, qb)]).length ≤ M := by rw [hM'.out]; exact HIN.out.len HA.out HB.out HK.out
              have hL2 : (L' ++ [(qa, qb)]).length = L'.length + 1 := by simp
              have hT2 : (T' ++ [(qa, qb)]).length = T'.length + 1 := by simp
              have HMS2 : Hid (2 * (M - (L' ++ [(qa, qb)]).length) + (T' ++ [(qa, qb)]).length < 2 * (M - L.length) + (T1.length + 1)) := by
                have := HMS.out
                show _ < _
                omega
              have HT2 := Lib.hid hT2
              clear hmem hLM2 hL2 hT2
              obtain ⟨i136, hi136, hz136, hs136, hb136⟩ := info_parts Try.info136
              have HII := Lib.hid hi136; have HZ := Lib.hid hz136; have HSI := Lib.hid hs136; have HBY := Lib.hid hb136
              clear hi136 hz136 hs136 hb136
              go_wp2_with (first
                | (at_lookup; go_must (refine wpList_look _ rfl (.tmp 96) (.tmp 97) 137 rfl keys136 Try.underlying137 (Try.zero4 _) gm L'.length (seenF L') rfl HAW6.out.map (qa, qb) rfl (.bool false) HV.out ?_))
                | (at_mapUpdate; go_must (refine wpList_store _ rfl (.tmp 100) (.tmp 101) (.const (.bool true)) 137 rfl keys136 Try.underlying137 gm L'.length (seenF L') rfl HAW6.out.map (qa, qb) (.bool true) rfl rfl ?_)))
              intro w7 hm7 ht7
              have hneq : bq ≠ gm := hne6.out
              have HQQ7 := Lib.hid (HQQ.out.touch ht7 hneq)
              have HQ7 := Lib.hid (HQ6.out.touch ht7 (Ne.symm (HAW6.out.map.ne_blk HQ6.out)))
              have HAW7 := Lib.hid (HAW6.out.known hm7 ht7)
              clear HAW6 HQ6 HQQ t0 t1 hm7 ht7 hneq
              have t0 : w7.cell? ⟨bq, 0, none⟩ = some (.int .i64 qa) := by rw [HQQ7.out.cell]; rfl
              have t1 : w7.cell? ⟨bq, 1, none⟩ = some (.int .i64 qb) := by rw [HQQ7.out.cell]; rfl
              have HAW8 := Lib.hid (HAW7.out.alloc (.cells #[.int .i64 qa, .int .i64 qb] 136))
              have HO3 := Lib.hid HAW8.out.todo
              go_wp2_with (at_builtin; go_must (refine wpList_append_own_at _ rfl (.tmp 102) (.tmp 104) 138 rfl w.heap.size 136 i136 (.agg #[.int .i64 0, .int .i64 0]) 2 16 Try.underlying138 HII.out HZ.out HSI.out HBY.out rfl (by omega) (.slice TA' T'.length tc') T'.length (flat2 T') rfl HO3.out ⟨w7.heap.size, 0, none⟩ 1 1 [.int .i64 qa, .int .i64 qb] rfl rfl (World.news_of_block (cs := #[.int .i64 qa, .int .i64 qb]) (t := 136) (fr := (0, 0)) (heap_alloc_new w7 _)) ?c2 ?c3 ?c4 ?c5 ?_))
              case c2 => intro u hu; rcases List.mem_cons.1 hu with rfl | hu; rfl; rw [List.mem_singleton.1 hu]; rfl
              case c3 => unfold maxLen; omega
              case c4 => omega
              case c5 => have := HAW8.out.bel.size; simp at this ⊢; omega
              intro v1 w8 hown1 hgr1 _ hat1
              obtain ⟨TA2, tc2, rfl⟩ := own_form hown1
              have HAW9 := Lib.hid (HAW8.out.push (q := (qa, qb)) rfl hown1 hgr1)
              have HNB2 : Hid ((Value.slice TA2 (T' ++ [(qa, qb)]).length tc2).ownBlock ≠ some bp) := by
                have hlq := HQ7.out.lt
                have e1 : (Value.slice TA2 (T' ++ [(qa, qb)]).length tc2).ownBlock = (Value.slice TA2 (T'.length + 1) tc2).ownBlock := by rw [HT2.out]
                rw [Hid, e1]
                rcases hat1 with h | h
                · rw [h]; exact HNB.out
                · rw [h]; intro e; injection e with e; omega
              have HQ9 := Lib.hid ((HQ7.out.alloc (.cells #[.int .i64 qa, .int .i64 qb] 136)).touch (Touch.ofGrown hgr1) (fun e => HNB.out e.symm))
              clear hown1 hgr1 hat1 t0 t1 HAW7 HAW8 HO3 HQ7 HQQ7
              go_wp2_with fail
              go_roundw
              case rel => exact ⟨y + 1, L' ++ [(qa, qb)], T' ++ [(qa, qb)], TA2, tc2, by rw [HT2.out], by go_num, by omega, HIN, HAW9, HQ9, HNB2, HMS2⟩
              case measure => simp [intOf]; omega
          · have hyK2 : a.K ≤ (y : Int) := by omega
            have HOO := Lib.hid (HI.out.close hyK2)
            have hms := HMS.out
            obtain ⟨⟨a0, a1, a2, a3⟩, _⟩ := blk4 HAW.out.xa
            have lta' := HAW.out.xa.lt
            go_wp2_with fail
            go_roundg (2 * (M - L'.length) + T'.length)
            case measure => exact hms
            case rel => exact ⟨L', T', _, _, rfl, rfl, HOO, HAW⟩
end Go.Proofs.Ytmpcoclgcldclaa
