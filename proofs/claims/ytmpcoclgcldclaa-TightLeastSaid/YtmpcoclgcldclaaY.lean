/- The walk of dfa.product. -/
import Derived.Test.YtmpcoclgcldclaaX
import Derived.Deep.LoopGhost
namespace Go.Proofs.Ytmpcoclgcldclaa
open Go.RowKit
attribute [local go_sem ↓] Go.wp_at_zero Go.wp_at_succ

theorem Try.info112 : (Try.prog.info? 112).map (fun i => (i.zero, i.size, i.bytes)) = some (some (.agg #[.int .i64 0, .int .i64 0]), 2, 16) := by kernel_rfl
theorem Try.zero3 : ∀ w, (zeroValue 3).run Try.prog w = .ok (.int .i64 0) w := fun _ => by kernel_rfl
/-- an entry of a map's literal -/
theorem wpList_insert {α : Type} [DecidableEq α] {k e : TypeId} {κ : α → Value} (w : World) {ops : Array Oper} {rest : List Oper} {o : Oper} {a : Act} {Q : Exit → Act → World → Prop}
    (hg : o.guard = none) (m x v : Operand) (t : TypeId) (hop : o.op = Op.insert t m x v) (K : KeyK k κ) (ht : Try.prog.underlying t = some (.map k e))
    (b n : Nat) (f : α → Option Value) (hm : a.eval m = .map (some b)) (hown : MapF w b n κ f) (key : α) (val : Value) (hx : a.eval x = κ key) (hv : a.eval v = val)
    (hK : ∀ w', MapF w' b (n + 1) κ (fun x => if x = key then some val else f x) → Touch (fun j => j = b) w w' → wpList Try.prog ops Q rest (a.put o.dst undef) w') : wpList Try.prog ops Q (o :: rest) a w := by
  refine wpList_plain hg fun K' hK' => ?_
  obtain ⟨w', hrun, r1, r2⟩ := hown.store K ht key val
  unfold Oper.wp
  simp [execOp, hop, hm, hx, hv, hrun, Result.andThen]
  exact hK' _ _ (hK w' r1 r2)

/-- the places of the pairs, as the map has them -/
def plcF (L : List (Int × Int)) (p : Int × Int) : Option Value := if p ∈ L then some (.int .i64 (plc L p)) else none
theorem plcF_one (p : Int × Int) : ∀ x, (if x = p then some (Value.int .i64 0) else none) = plcF [p] x := by
  intro x
  unfold plcF
  by_cases h : x = p
  · subst h
    simp [plc_head (L := [x]) (p := x) rfl]
  · simp [h]
theorem plcF_grow {L : List (Int × Int)} {q : Int × Int} (h : q ∉ L) : ∀ x, (if x = q then some (Value.int .i64 ((L.length : Nat) : Int)) else plcF L x) = plcF (L ++ [q]) x := by
  intro x
  unfold plcF
  by_cases e : x = q
  · subst e
    rw [if_pos rfl, if_pos (by simp), plc_new h]
  · rw [if_neg e]
    by_cases hm : x ∈ L
    · rw [if_pos hm, if_pos (by simp [hm]), plc_append hm]
    · rw [if_neg hm, if_neg (by simp [hm, e])]

theorem state_c (g base : Nat) (K S : Int) (AN : Option Addr) (cN : Nat) (N : List Int) (AA : Option Addr) (cA : Nat) (A : List Bool) (ac : Bool) (z : Int) (w : World)
    (hK1 : 1 ≤ K) (hK : K ≤ 1000) (hN : N.length ≤ 1000000000) (hA : A.length ≤ 1000000) (hbase : base ≤ w.heap.size) (hm : Maker w g base K S AN cN N AA cA A) :
    Calls Try.prog 82 #[.pointer (some ⟨g, 0, none⟩), .bool ac, .int .i64 z] w fun e w' =>
      e = .returned (.int .i64 A.length) ∧ ∃ AN' cN' AA' cA', Maker w' g base K S AN' cN' (N ++ List.replicate K.toNat z) AA' cA' (A ++ [ac]) ∧ Touch (MakerS g AN N.length cN AA A.length cA) w w' := by
  obtain ⟨K, rfl⟩ := Int.eq_ofNat_of_zero_le (show 0 ≤ K by omega)
  rw [Int.toNat_natCast]
  exact state_any g base K S AN cN N AA cA A ac z w (by omega) (by omega) hN hA hbase hm

/-- what product gives -/
def GivesP (f : Bool → Bool → Bool) (a b : D) (w : World) (e : Ending) (w' : World) : Prop := ∃ d L, ProdOf f a b d L ∧ Gives w d 0 e w'

theorem accs_grow {a b : D} {f : Bool → Bool → Bool} {L : List (Int × Int)} {A : List Bool} {q : Int × Int} (h : A = (L.take A.length).map fun p => f (a.acc p.1) (b.acc p.2)) (hl : A.length ≤ L.length) :
    A = ((L ++ [q]).take A.length).map fun p => f (a.acc p.1) (b.acc p.2) := by
  rw [List.take_append_of_le_length hl]
  exact h
theorem accs_next {a b : D} {f : Bool → Bool → Bool} {L : List (Int × Int)} {A : List Bool} {p : Int × Int} (h : A = (L.take A.length).map fun p => f (a.acc p.1) (b.acc p.2)) (hp : L[A.length]? = some p) :
    A ++ [f (a.acc p.1) (b.acc p.2)] = (L.take (A ++ [f (a.acc p.1) (b.acc p.2)]).length).map fun p => f (a.acc p.1) (b.acc p.2) := by
  rw [List.length_append, List.length_singleton, take_snoc hp, List.map_append, ← h]
  rfl

theorem plcF_yes {L : List (Int × Int)} {q : Int × Int} (h : q ∈ L) : (plcF L q).getD (.int .i64 0) = .int .i64 (plc L q) ∧ (plcF L q).isSome = true := by
  unfold plcF; rw [if_pos h]; exact ⟨rfl, rfl⟩
theorem plcF_no {L : List (Int × Int)} {q : Int × Int} (h : q ∉ L) : (plcF L q).getD (.int .i64 0) = .int .i64 0 ∧ (plcF L q).isSome = false := by
  unfold plcF; rw [if_neg h]; exact ⟨rfl, rfl⟩
theorem row_ix {k y : Nat} {K : Int} (hK : 0 ≤ K) : ((k : Int) * K + (y : Int)).toNat = k * K.toNat + y := by
  obtain ⟨K, rfl⟩ := Int.eq_ofNat_of_zero_le hK
  rw [Int.toNat_natCast, show (k : Int) * (K : Int) + (y : Int) = ((k * K + y : Nat) : Int) by simp, Int.toNat_natCast]
theorem row_bd {k y : Nat} {K : Int} {N : List Int} (hN : N.length = (k + 1) * K.toNat) (hy : (y : Int) < K) (hk : k ≤ 65536) (hK : K ≤ 1000) : 0 ≤ (k : Int) * K ∧ (k : Int) * K ≤ 65536000 ∧ 0 ≤ (k : Int) * K + (y : Int) ∧ (k : Int) * K + (y : Int) < (N.length : Nat) := by
  obtain ⟨K, rfl⟩ := Int.eq_ofNat_of_zero_le (show 0 ≤ K by omega)
  rw [Int.toNat_natCast] at hN
  have h1 : (k : Int) * (K : Int) = ((k * K : Nat) : Int) := by simp
  have h2 : (k + 1) * K = k * K + K := Nat.succ_mul k K
  have h3 : k * K ≤ 65536 * 1000 := Nat.mul_le_mul hk (by omega)
  rw [h1]
  omega
section
variable {w w' : World} {g base : Nat} {K S : Int} {AN AA : Option Addr} {cN cA : Nat} {N : List Int} {A : List Bool}
theorem Maker.not_own (hm : Maker w g base K S AN cN N AA cA A) {base' : Nat} {e : TypeId} {size n : Nat} {v : Value} {xs : List Value} (h : w.ownsRow base' e size v n xs) (he : e ≠ 3 ∧ e ≠ 4 ∧ e ≠ 79) {k : Nat} (hk : v.ownBlock = some k) : ¬ MakerS g AN N.length cN AA A.length cA k := by
  rintro (rfl | h1 | h1)
  · exact own_ne_blk h hm.blk (Ne.symm he.2.2) hk
  · exact own_ne_own h hm.next (Ne.symm he.1) h1 hk
  · exact own_ne_own h hm.acc (Ne.symm he.2.1) h1 hk
theorem blk_ne_own {base' : Nat} {e : TypeId} {size n : Nat} {v : Value} {xs : List Value} {b : Nat} {t : TypeId} {cs : Array Value} (h : w.ownsRow base' e size v n xs) (hb : Blk w b t cs) (hne : t ≠ e) : v.ownBlock ≠ some b := own_ne_blk h hb hne
theorem blk_ne_blk {b b' : Nat} {t t' : TypeId} {cs cs' : Array Value} (h : Blk w b t cs) (h' : Blk w b' t' cs') (hne : t ≠ t') : b ≠ b' := by
  rintro rfl
  unfold Blk at h h'
  rw [h] at h'
  injection h' with h'
  injection h' with _ ht
  exact hne ht
theorem Maker.not_blk (hm : Maker w g base K S AN cN N AA cA A) {b : Nat} {t : TypeId} {cs : Array Value} (h : Blk w b t cs) (he : t ≠ 3 ∧ t ≠ 4 ∧ t ≠ 79) : ¬ MakerS g AN N.length cN AA A.length cA b := by
  rintro (rfl | h1 | h1)
  · exact blk_ne_blk h hm.blk he.2.2 rfl
  · exact own_ne_blk hm.next h he.1 h1
  · exact own_ne_blk hm.acc h he.2.1 h1
theorem Maker.not_map (hm : Maker w g base K S AN cN N AA cA A) {α : Type} {κ : α → Value} {f : α → Option Value} {b n : Nat} (h : MapF w b n κ f) : ¬ MakerS g AN N.length cN AA A.length cA b := by
  rintro (rfl | h1 | h1)
  · exact h.ne_blk hm.blk rfl
  · exact h.ne_own hm.next h1
  · exact h.ne_own hm.acc h1
end

set_option maxHeartbeats 8000000 in
set_option maxRecDepth 100000 in
theorem product_any (a b : D) (Aan Aaa Abn Aba : Option Addr) (can caa cbn cba : Nat) (g : FuncId) (f : Bool → Bool → Bool) (w : World)
    (hg : ∀ x y w, Calls Try.prog g #[.bool x, .bool y] w fun e w' => e = .returned (.bool (f x y)) ∧ w = w') (eg : ∀ args w, (callFunc g args).run Try.prog w = .ok (.enter g args) w)
    (hda : DIn w a Aan Aaa) (hdb : DIn w b Abn Aba) (ha : a.Ok) (hb : b.Ok) (hK : a.K = b.K) (hsz : a.A.length * b.A.length ≤ 65536) :
    Calls Try.prog 86 #[dfaV a.K a.S Aan a.N.length can Aaa a.A.length caa, dfaV b.K b.S Abn b.N.length cbn Aba b.A.length cba, .func (.func g) #[] #[]] w (GivesP f a b w) := by
  have hkk : (a.K != b.K) = false := by rw [hK]; simp
  obtain ⟨M, hM⟩ : ∃ M, M = a.A.length * b.A.length := ⟨_, rfl⟩
  rw [← hM] at hsz
  have hM' := Lib.hid hM; clear hM
  have ca := fun (W : World) (h : Below w.heap.size w W) => right_c (hda.up h) can caa
  rw [D.right_true.2 ha] at ca
  have cb := fun (W : World) (h : Below w.heap.size w W) => right_c (hdb.up h) cbn cba
  rw [D.right_true.2 hb] at cb
  have CA := Lib.hid ca; have CB := Lib.hid cb
  have HAN := Lib.hid hda.rn; have HAA := Lib.hid hda.ra; have HBN := Lib.hid hdb.rn; have HBA := Lib.hid hdb.ra
  have HA := Lib.hid ha; have HB := Lib.hid hb; have HK := Lib.hid hK; have HG := Lib.hid hg
  have hmm := @run_makeMap Try.prog
  clear ca cb hda hdb ha hb hK hg
  have hk1 : 1 ≤ a.K := HA.out.1
  have hk2 : a.K ≤ 1000 := Int.le_trans HA.out.2.1 (by omega)
  have Ba : Hid (BlkD (((w.alloc (.cells #[.int .i64 a.K, .int .i64 a.S, .slice Aan a.N.length can, .slice Aaa a.A.length caa] 25)).alloc (.cells #[.int .i64 b.K, .int .i64 b.S, .slice Abn b.N.length cbn, .slice Aba b.A.length cba] 25)).alloc (.cells #[.int .i64 0, .int .i64 0, .slice none 0 0, .slice none 0 0] 25)) w.heap.size a Aan can Aaa caa) := ((Blk.new w 25 _).alloc _).alloc _
  have Bb : Hid (BlkD (((w.alloc (.cells #[.int .i64 a.K, .int .i64 a.S, .slice Aan a.N.length can, .slice Aaa a.A.length caa] 25)).alloc (.cells #[.int .i64 b.K, .int .i64 b.S, .slice Abn b.N.length cbn, .slice Aba b.A.length cba] 25)).alloc (.cells #[.int .i64 0, .int .i64 0, .slice none 0 0, .slice none 0 0] 25)) (w.heap.size + 1) b Abn cbn Aba cba) := by
    have h := (Blk.new (w.alloc (.cells #[.int .i64 a.K, .int .i64 a.S, .slice Aan a.N.length can, .slice Aaa a.A.length caa] 25)) 25 #[.int .i64 b.K, .int .i64 b.S, .slice Abn b.N.length cbn, .slice Aba b.A.length cba]).alloc (.cells #[.int .i64 0, .int .i64 0, .slice none 0 0, .slice none 0 0] 25)
    simp only [size_alloc_one] at h
    exact h
  have Br : Hid (Blk (((w.alloc (.cells #[.int .i64 a.K, .int .i64 a.S, .slice Aan a.N.length can, .slice Aaa a.A.length caa] 25)).alloc (.cells #[.int .i64 b.K, .int .i64 b.S, .slice Abn b.N.length cbn, .slice Aba b.A.length cba] 25)).alloc (.cells #[.int .i64 0, .int .i64 0, .slice none 0 0, .slice none 0 0] 25)) (w.heap.size + 1 + 1) 25 #[.int .i64 0, .int .i64 0, .slice none 0 0, .slice none 0 0]) := by
    have h := Blk.new ((w.alloc (.cells #[.int .i64 a.K, .int .i64 a.S, .slice Aan a.N.length can, .slice Aaa a.A.length caa] 25)).alloc (.cells #[.int .i64 b.K, .int .i64 b.S, .slice Abn b.N.length cbn, .slice Aba b.A.length cba] 25)) 25 #[.int .i64 0, .int .i64 0, .slice none 0 0, .slice none 0 0]
    simp only [size_alloc_one] at h
    exact h
  have HW := Lib.hid (bel_alloc (bel_alloc (bel_new w (.cells #[.int .i64 a.K, .int .i64 a.S, .slice Aan a.N.length can, .slice Aaa a.A.length caa] 25)) (.cells #[.int .i64 b.K, .int .i64 b.S, .slice Abn b.N.length cbn, .slice Aba b.A.length cba] 25)) (.cells #[.int .i64 0, .int .i64 0, .slice none 0 0, .slice none 0 0] 25))
  go_enter Try.func86, Try.ntmps86
  go_wp2_with fail
  refine (CA.out _ HW.out).mono ?_
  rintro e w1 ⟨rfl, hb1⟩
  replace Ba := Lib.hid (blk_below Ba.out hb1)
  replace Bb := Lib.hid (blk_below Bb.out hb1)
  replace Br := Lib.hid (blk_below Br.out hb1)
  replace HW := Lib.hid (bel_step HW.out hb1)
  obtain ⟨⟨b0, b1, b2, b3⟩, _⟩ := blk4 Bb.out
  clear hb1
  go_wp2_with fail
  refine (CB.out _ HW.out).mono ?_
  rintro e w2 ⟨rfl, hb1⟩
  replace Ba := Lib.hid (blk_below Ba.out hb1)
  replace Bb := Lib.hid (blk_below Bb.out hb1)
  replace Br := Lib.hid (blk_below Br.out hb1)
  replace HW := Lib.hid (bel_step HW.out hb1)
  clear b0 b1 b2 b3 hb1
  obtain ⟨⟨a0, a1, a2, a3⟩, _⟩ := blk4 Ba.out
  obtain ⟨⟨b0, b1, b2, b3⟩, _⟩ := blk4 Bb.out
  have lta : w.heap.size < w2.heap.size := Ba.out.lt
  have ltb : w.heap.size + 1 < w2.heap.size := Bb.out.lt
  have hM0 := MapF.made ((w2.alloc (.cells #[.int .i64 a.K, .int .i64 0, .slice none 0 0, .slice none 0 0] 79)).alloc (.cells #[.int .i64 a.S, .int .i64 b.S] 112)) pairV
  simp only [size_alloc_one] at hM0
  have HM0 := Lib.hid hM0; clear hM0
  go_wp2_with (refine wpList_insert _ rfl (.tmp 44) (.tmp 45) (.const (.int .i64 0)) 113 rfl keys112 Try.underlying113 (w2.heap.size + 1 + 1) 0 (fun _ => none) rfl HM0.out (a.S, b.S) (.int .i64 0) rfl rfl ?_)
  intro w3 hm3 ht3
  have hmk := ((Maker.made w2 a.K 0).blk.alloc (.cells #[.int .i64 a.S, .int .i64 b.S] 112)).alloc (.map #[] 0)
  have hpr := (Blk.new (w2.alloc (.cells #[.int .i64 a.K, .int .i64 0, .slice none 0 0, .slice none 0 0] 79)) 112 #[.int .i64 a.S, .int .i64 b.S]).alloc (.map #[] 0)
  simp only [size_alloc_one] at hpr
  have hmk3 := hmk.touch ht3 (by omega)
  have hpr3 := hpr.touch ht3 (by omega)
  have hm3' := hm3.ext (plcF_one (a.S, b.S))
  have hW3 : Below w.heap.size w w3 := (((HW.out.alloc HW.out.size _).alloc (by simp; omega) _).alloc (by simp; omega) _).trans (ht3.toBelow (by simp; omega) (fun k hk h => by omega))
  have hBa3 : BlkD w3 w.heap.size a Aan can Aaa caa := (((Ba.out.alloc _).alloc _).alloc _).touch ht3 (by omega)
  have hBb3 : BlkD w3 (w.heap.size + 1) b Abn cbn Aba cba := (((Bb.out.alloc _).alloc _).alloc _).touch ht3 (by omega)
  have hBr3 := (((Br.out.alloc (.cells #[.int .i64 a.K, .int .i64 0, .slice none 0 0, .slice none 0 0] 79)).alloc (.cells #[.int .i64 a.S, .int .i64 b.S] 112)).alloc (.map #[] 0)).touch ht3 (by have := Br.out.lt; omega)
  have hgw : w.heap.size + 1 + 1 < w2.heap.size := Br.out.lt
  have hsz3 := ht3.size
  simp only [size_alloc_one] at hsz3
  clear Ba Bb Br HW HM0 hmk hpr hm3 ht3 a0 a1 a2 a3 b0 b1 b2 b3
  generalize hgg : w2.heap.size = gm at *
  have p0 : w3.cell? ⟨gm + 1, 0, none⟩ = some (.int .i64 a.S) := by rw [hpr3.cell]; rfl
  have p1 : w3.cell? ⟨gm + 1, 1, none⟩ = some (.int .i64 b.S) := by rw [hpr3.cell]; rfl
  have HMK := Lib.hid hmk3; have HMP := Lib.hid hm3'; have HW := Lib.hid hW3; have Ba := Lib.hid hBa3; have Bb := Lib.hid hBb3; have Br := Lib.hid hBr3; have HGG := Lib.hid hgg
  clear hmk3 hpr3 hm3' hW3 hBa3 hBb3 hBr3 hgg
  go_wp2_with fail
  have HTD := Lib.hid (World.ownsRow_lit (base := gm) (e := 112) (size := 2) w3 #[.int .i64 a.S, .int .i64 b.S] 1 (by omega) (by decide) rfl)
  have HMK1 : Hid (Maker (w3.alloc (.cells #[.int .i64 a.S, .int .i64 b.S] 112)) gm gm a.K 0 none 0 [] none 0 []) := ⟨HMK.out.alloc _, World.ownsRow_nil _ _ _ _, World.ownsRow_nil _ _ _ _⟩
  replace HMP := Lib.hid (HMP.out.alloc (.cells #[.int .i64 a.S, .int .i64 b.S] 112))
  replace Ba := Lib.hid (Ba.out.alloc (.cells #[.int .i64 a.S, .int .i64 b.S] 112))
  replace Bb := Lib.hid (Bb.out.alloc (.cells #[.int .i64 a.S, .int .i64 b.S] 112))
  replace Br := Lib.hid (Br.out.alloc (.cells #[.int .i64 a.S, .int .i64 b.S] 112))
  replace HW := Lib.hid (bel_alloc HW.out (.cells #[.int .i64 a.S, .int .i64 b.S] 112))
  clear HMK p0 p1
  go_loopg [11] M (fun gk td wr => ∃ (L : List (Int × Int)) (N : List Int) (A : List Bool) (AN : Option Addr) (cN : Nat) (AA : Option Addr) (cA : Nat) (TA : Option Addr) (tc : Nat),
    td = .slice TA L.length tc ∧ A.length ≤ L.length ∧ gk = M - A.length ∧ Hid (Maker wr gm gm a.K 0 AN cN N AA cA A) ∧ Hid (PInv a b L A.length 0) ∧ Hid (PRows a b L N A.length) ∧
    Hid (A = (L.take A.length).map fun p => f (a.acc p.1) (b.acc p.2)) ∧ Hid (wr.ownsRow gm 112 2 (.slice TA L.length tc) L.length (flat2 L)) ∧ Hid (MapF wr (gm + 1 + 1) L.length pairV (plcF L)) ∧
    Hid (BlkD wr w.heap.size a Aan can Aaa caa) ∧ Hid (BlkD wr (w.heap.size + 1) b Abn cbn Aba cba) ∧ Hid (Blk wr (w.heap.size + 1 + 1) 25 #[.int .i64 0, .int .i64 0, .slice none 0 0, .slice none 0 0]) ∧ Hid (Below w.heap.size w wr))
  case atStart => exact ⟨[(a.S, b.S)], [], [], none, 0, none, 0, _, _, rfl, by simp, by simp, HMK1, PInv.init a b, PRows.init a b _, rfl, HTD, HMP, Ba, Bb, Br, HW⟩
  case round =>
    clear HTD HMK1 HMP Ba Bb Br HW
    obtain ⟨L, N, A, AN, cN, AA, cA, TA, tc, rfl, hAL, rfl, HM, HP, HR, HC, HT, HMP, Ba, Bb, Br, HW⟩ := hrel
    have hLM : L.length ≤ M := by rw [hM'.out]; exact HP.out.len HA.out HB.out HK.out
    obtain ⟨⟨m0, m1, m2, m3⟩, _⟩ := blk4 HM.out.blk
    obtain ⟨⟨a0, a1, a2, a3⟩, _⟩ := blk4 Ba.out
    obtain ⟨⟨b0, b1, b2, b3⟩, _⟩ := blk4 Bb.out
    have hNl : N.length ≤ 1000000000 := by
      rw [HR.out.len]
      exact Nat.le_trans (Nat.mul_le_mul (show A.length ≤ 65536 by omega) (show a.K.toNat ≤ 1000 by omega)) (by omega)
    by_cases hlt : A.length < L.length
    · obtain ⟨gt, ot, p, rfl, hgt, hc1, hc2, hp⟩ := (Rd2.of_own HT.out (Nat.le_refl _)).at_ hlt
      obtain ⟨p1, p2⟩ := p
      have hr := (HP.out.reach _ (List.mem_of_getElem? hp)).lt HA.out HB.out HK.out
      obtain ⟨⟨hr1, hr2⟩, hr3, hr4⟩ := hr
      simp only [] at hr1 hr2 hr3 hr4
      have HPK := Lib.hid hp; clear hp
      obtain ⟨ga, oa, va, hAa, hga, hca, hva⟩ := HAA.out.bool_ix hr1 hr2
      obtain ⟨gb, ob, vb, hAb, hgb, hcb, hvb⟩ := HBA.out.bool_ix hr3 hr4
      have HVA : Hid (a.acc p1 = va) := hva
      have HVB : Hid (b.acc p2 = vb) := hvb
      subst hAa hAb
      have HCA : Hid (∀ W, Below w.heap.size w W → W.cell? ⟨ga, oa + p1.toNat, none⟩ = some (.bool va)) := fun W hb => (hb.cell (p := ⟨ga, oa + p1.toNat, none⟩) hga).trans hca
      have HCB : Hid (∀ W, Below w.heap.size w W → W.cell? ⟨gb, ob + p2.toNat, none⟩ = some (.bool vb)) := fun W hb => (hb.cell (p := ⟨gb, ob + p2.toNat, none⟩) hgb).trans hcb
      clear hva hvb hca hcb
      go_wp2_with fail
      have hq0 := Blk.new wr 112 #[.int .i64 p1, .int .i64 p2]
      have hlta := Ba.out.lt
      have hltb := Bb.out.lt
      have hltp : gm < wr.heap.size := HM.out.blk.lt
      have HNB : Hid ((Value.slice (some ⟨gt, ot, none⟩) L.length tc).ownBlock ≠ some wr.heap.size) := fun e => by have := (HT.out.lt _ e).2; omega
      have HM4 : Hid (Maker (wr.alloc (.cells #[.int .i64 p1, .int .i64 p2] 112)) gm gm a.K 0 AN cN N AA cA A) := ⟨HM.out.blk.alloc _, HM.out.next.alloc _, HM.out.acc.alloc _⟩
      have HT4 := Lib.hid (HT.out.alloc (.cells #[.int .i64 p1, .int .i64 p2] 112))
      replace HMP := Lib.hid (HMP.out.alloc (.cells #[.int .i64 p1, .int .i64 p2] 112))
      replace Ba := Lib.hid (Ba.out.alloc (.cells #[.int .i64 p1, .int .i64 p2] 112))
      replace Bb := Lib.hid (Bb.out.alloc (.cells #[.int .i64 p1, .int .i64 p2] 112))
      replace Br := Lib.hid (Br.out.alloc (.cells #[.int .i64 p1, .int .i64 p2] 112))
      replace HW := Lib.hid (bel_alloc HW.out (.cells #[.int .i64 p1, .int .i64 p2] 112))
      clear HM HT m0 m1 m2 m3 a0 a1 a2 a3 b0 b1 b2 b3 hc1 hc2 hgt
      generalize hbp : wr.heap.size = bp at hq0 HNB hlta hltb hltp ⊢
      generalize wr.alloc (.cells #[.int .i64 p1, .int .i64 p2] 112) = W4 at *
      clear hbp
      obtain ⟨⟨a0, a1, a2, a3⟩, _⟩ := blk4 Ba.out
      obtain ⟨⟨b0, b1, b2, b3⟩, _⟩ := blk4 Bb.out
      have q0 : W4.cell? ⟨bp, 0, none⟩ = some (.int .i64 p1) := by rw [hq0.cell]; rfl
      have q1 : W4.cell? ⟨bp, 1, none⟩ = some (.int .i64 p2) := by rw [hq0.cell]; rfl
      have HQ0 := Lib.hid hq0; clear hq0
      have ca0 := HCA.out _ HW.out
      have cb0 := HCB.out _ HW.out
      have HM4' := Lib.hid HM4.out.drew
      have hgs : gm ≤ W4.drew.heap.size := by have := HM4.out.blk.lt; exact Nat.le_of_lt this
      have hAl : A.length ≤ 1000000 := by omega
      go_region_held3 (fun w' => w'.cell? ⟨w.heap.size, 3, none⟩ = some (.slice (some ⟨ga, oa, none⟩) a.A.length caa) ∧ w'.cell? ⟨w.heap.size + 1, 3, none⟩ = some (.slice (some ⟨gb, ob, none⟩) b.A.length cba) ∧
          w'.cell? ⟨bp, 0, none⟩ = some (.int .i64 p1) ∧ w'.cell? ⟨bp, 1, none⟩ = some (.int .i64 p2) ∧ w'.cell? ⟨ga, oa + p1.toNat, none⟩ = some (.bool va) ∧ w'.cell? ⟨gb, ob + p2.toNat, none⟩ = some (.bool vb))
        (first | go_keep | trivial)
        (first
          | (go_at_call 82
             refine (state_c gm gm a.K 0 AN cN N AA cA A _ 0 _ hk1 hk2 hNl hAl ?_ ?_).mono ?_
             (exact hgs)
             (exact HM4'.out)
             rintro e w5 ⟨rfl, AN', cN', AA', cA', hm5, ht5⟩
             have HW5 : Hid (Below w.heap.size w w5) := HW.out.drew.trans (ht5.toBelow HW.out.size (fun k hk hS => by have := HM4'.out.ge (Nat.le_refl _) k hS; omega))
             have Ba5 := Lib.hid (Ba.out.drew.touch ht5 (HM4'.out.not_blk Ba.out.drew (by decide)))
             have Bb5 := Lib.hid (Bb.out.drew.touch ht5 (HM4'.out.not_blk Bb.out.drew (by decide)))
             have HQ5 := Lib.hid (HQ0.out.drew.touch ht5 (HM4'.out.not_blk HQ0.out.drew (by decide)))
             obtain ⟨⟨aa0, aa1, aa2, aa3⟩, _⟩ := blk4 Ba5.out
             obtain ⟨⟨bb0, bb1, bb2, bb3⟩, _⟩ := blk4 Bb5.out
             have qq0 : w5.cell? ⟨bp, 0, none⟩ = some (.int .i64 p1) := by rw [HQ5.out.cell]; rfl
             have qq1 : w5.cell? ⟨bp, 1, none⟩ = some (.int .i64 p2) := by rw [HQ5.out.cell]; rfl
             have hca5 := HCA.out _ HW5.out
             have hcb5 := HCB.out _ HW5.out)
          | (refine (HG.out _ _ _).mono ?_
             rintro e w' ⟨rfl, rfl⟩))
      have HT4' : Hid (W4.drew.ownsRow gm 112 2 (.slice (some ⟨gt, ot, none⟩) L.length tc) L.length (flat2 L)) := HT4.out
      have HT5 := Lib.hid (own_touch HT4'.out ht5 (fun k hk => HM4'.out.not_own HT4'.out (by decide) hk))
      have HMP5 := Lib.hid (HMP.out.drew.touch ht5 (HM4'.out.not_map HMP.out.drew))
      have Br5 : Hid (Blk w5 (w.heap.size + 1 + 1) 25 #[.int .i64 0, .int .i64 0, .slice none 0 0, .slice none 0 0]) := Blk.touch (w := W4.drew) Br.out ht5 (HM4'.out.not_blk (w := W4.drew) Br.out (by decide))
      obtain ⟨A1, hA1⟩ : ∃ A1, A1 = A ++ [f va vb] := ⟨_, rfl⟩
      obtain ⟨N1, hN1⟩ : ∃ N1, N1 = N ++ List.replicate a.K.toNat 0 := ⟨_, rfl⟩
      rw [← hA1, ← hN1] at hm5
      have HC1 : Hid (A1 = (L.take A1.length).map fun p => f (a.acc p.1) (b.acc p.2)) := by
        have h := accs_next (f := f) HC.out HPK.out
        simp only [HVA.out, HVB.out] at h
        rw [hA1]
        exact h
      have HA1l : Hid (A1.length = A.length + 1) := by
        show _ = _
        rw [hA1]; simp
      have HTAB : Hid (PTab a b L N1 A.length 0) := by rw [hN1]; exact HR.out.begun 0
      have HM5 := Lib.hid hm5
      clear hA1 hN1 hm5 ht5 HT4 HT4' HM4 HM4' HMP Ba Bb Br HW HQ0 HC HR ca0 cb0 a0 a1 a2 a3 b0 b1 b2 b3 q0 q1 qq0 qq1 hca5 hcb5 bb0 bb1 bb2 bb3 HCA HCB HVA HVB hgs
      go_wp2_with fail
      clear aa0 aa1 aa2 aa3
      go_loopw [11, 85] (fun td x wi => ∃ (y : Nat) (L' : List (Int × Int)) (N' : List Int) (AN2 : Option Addr) (cN2 : Nat) (TA' : Option Addr) (tc' : Nat), td = .slice TA' L'.length tc' ∧ x = .int .i64 y ∧ (y : Int) ≤ a.K ∧
          Hid (L'[A.length]? = some (p1, p2)) ∧ Hid (PInv a b L' A.length y) ∧ Hid (PTab a b L' N' A.length y) ∧ Hid (A1 = (L'.take A1.length).map fun p => f (a.acc p.1) (b.acc p.2)) ∧
          Hid (Maker wi gm gm a.K 0 AN2 cN2 N' AA' cA' A1) ∧ Hid (wi.ownsRow gm 112 2 (.slice TA' L'.length tc') L'.length (flat2 L')) ∧ Hid ((Value.slice TA' L'.length tc').ownBlock ≠ some bp) ∧
          Hid (MapF wi (gm + 1 + 1) L'.length pairV (plcF L')) ∧ Hid (Blk wi bp 112 #[.int .i64 p1, .int .i64 p2]) ∧
          Hid (BlkD wi w.heap.size a Aan can (some ⟨ga, oa, none⟩) caa) ∧ Hid (BlkD wi (w.heap.size + 1) b Abn cbn (some ⟨gb, ob, none⟩) cba) ∧ Hid (Blk wi (w.heap.size + 1 + 1) 25 #[.int .i64 0, .int .i64 0, .slice none 0 0, .slice none 0 0]) ∧ Hid (Below w.heap.size w wi))
        (fun _ x _ => (a.K - intOf x).toNat)
      case atStart => exact ⟨0, L, N1, _, _, _, _, rfl, rfl, by omega, HPK, HP, HTAB, HC1, HM5, HT5, HNB, HMP5, HQ5, Ba5, Bb5, Br5, HW5⟩
      case round =>
        clear HP HTAB HC1 HM5 HT5 HNB HMP5 HQ5 Ba5 Bb5 Br5 HW5 HPK
        obtain ⟨y, L', N', AN2, cN2, TA', tc', rfl, rfl, hyK, HPK, HP, HTAB, HC, HM, HT, HNB, HMP, HQ, Ba, Bb, Br, HW⟩ := hrel
        have hLM' : L'.length ≤ M := by rw [hM'.out]; exact HP.out.len HA.out HB.out HK.out
        obtain ⟨⟨a0, a1, a2, a3⟩, _⟩ := blk4 Ba.out
        by_cases hyl : (y : Int) < a.K
        · obtain ⟨⟨b0, b1, b2, b3⟩, _⟩ := blk4 Bb.out
          have g0 : wr.cell? ⟨bp, 0, none⟩ = some (.int .i64 p1) := by rw [HQ.out.cell]; rfl
          have g1 : wr.cell? ⟨bp, 1, none⟩ = some (.int .i64 p2) := by rw [HQ.out.cell]; rfl
          have hm1 := HA.out.mul_bd (s := p1) ⟨hr1, hr2⟩
          have hm2 := HB.out.mul_bd (s := p2) ⟨hr3, hr4⟩
          have hi1 := HA.out.idx (s := p1) (x := y) ⟨hr1, hr2⟩ ⟨by omega, hyl⟩
          have hi2 := HB.out.idx (s := p2) (x := y) ⟨hr3, hr4⟩ ⟨by omega, by rw [← HK.out]; exact hyl⟩
          obtain ⟨gna, ona, qa, hAa, hgna, hca, hqa⟩ := (HAN.out.below HW.out).int_ix hi1.1 hi1.2
          obtain ⟨gnb, onb, qb, hAb, hgnb, hcb, hqb⟩ := (HBN.out.below HW.out).int_ix hi2.1 hi2.2
          have HSP : Hid (stepP a b (p1, p2) y = (qa, qb)) := by
            have h1 : a.step p1 y = qa := hqa
            have h2 : b.step p2 y = qb := hqb
            show (_, _) = _
            rw [h1, h2]
          subst hAa hAb
          obtain ⟨hi1a, hi1b⟩ := hi1
          obtain ⟨hi2a, hi2b⟩ := hi2
          obtain ⟨hm1a, hm1b⟩ := hm1
          obtain ⟨hm2a, hm2b⟩ := hm2
          clear hqa hqb
          have v1 : IntKind.i64.wrap (p1 * a.K) = p1 * a.K := by rw [IntKind.wrap_i64]; omega
          have v2 : IntKind.i64.wrap (p2 * b.K) = p2 * b.K := by rw [IntKind.wrap_i64]; omega
          have v3 : IntKind.i64.wrap (p1 * a.K + y) = p1 * a.K + y := by rw [IntKind.wrap_i64]; omega
          have v4 : IntKind.i64.wrap (p2 * b.K + y) = p2 * b.K + y := by rw [IntKind.wrap_i64]; omega
          have hs0 : w.heap.size < wr.heap.size := Ba.out.lt
          have hs1 : w.heap.size + 1 < wr.heap.size := Bb.out.lt
          have hs2 : bp < wr.heap.size := HQ.out.lt
          have hs3 : gna < wr.heap.size := by omega
          have hs4 : gnb < wr.heap.size := by omega
          go_wp2_with fail
          have nw := World.new_ne wr _ a0
          go_region_held3 (fun w' => w'.cell? ⟨w.heap.size, 0, none⟩ = some (.int .i64 a.K) ∧ w'.cell? ⟨w.heap.size, 2, none⟩ = some (.slice (some ⟨gna, ona, none⟩) a.N.length can) ∧ w'.cell? ⟨w.heap.size + 1, 0, none⟩ = some (.int .i64 b.K) ∧ w'.cell? ⟨w.heap.size + 1, 2, none⟩ = some (.slice (some ⟨gnb, onb, none⟩) b.N.length cbn) ∧
              w'.cell? ⟨bp, 0, none⟩ = some (.int .i64 p1) ∧ w'.cell? ⟨bp, 1, none⟩ = some (.int .i64 p2) ∧ w'.cell? ⟨gna, ona + (p1 * a.K + y).toNat, none⟩ = some (.int .i64 qa) ∧ w'.cell? ⟨gnb, onb + (p2 * b.K + y).toNat, none⟩ = some (.int .i64 qb)) (go_keep) (fail)
          have hbq : Hid ((Value.slice TA' L'.length tc').ownBlock ≠ some wr.heap.size) := fun e => by have := (HT.out.lt _ e).2; omega
          have hq2 := (Blk.new wr 112 #[.int .i64 qa, .int .i64 qb]).drew
          have HM6 : Hid (Maker (wr.alloc (.cells #[.int .i64 qa, .int .i64 qb] 112)).drew gm gm a.K 0 AN2 cN2 N' AA' cA' A1) := (⟨HM.out.blk.alloc _, HM.out.next.alloc _, HM.out.acc.alloc _⟩ : Maker (wr.alloc (.cells #[.int .i64 qa, .int .i64 qb] 112)) gm gm a.K 0 AN2 cN2 N' AA' cA' A1).drew
          have HT6 : Hid ((wr.alloc (.cells #[.int .i64 qa, .int .i64 qb] 112)).drew.ownsRow gm 112 2 (.slice TA' L'.length tc') L'.length (flat2 L')) := HT.out.alloc (.cells #[.int .i64 qa, .int .i64 qb] 112)
          have HMP6 := Lib.hid (HMP.out.alloc (.cells #[.int .i64 qa, .int .i64 qb] 112)).drew
          have HQ6 := Lib.hid (HQ.out.alloc (.cells #[.int .i64 qa, .int .i64 qb] 112)).drew
          have Ba6 := Lib.hid (Ba.out.alloc (.cells #[.int .i64 qa, .int .i64 qb] 112)).drew
          have Bb6 := Lib.hid (Bb.out.alloc (.cells #[.int .i64 qa, .int .i64 qb] 112)).drew
          have Br6 : Hid (Blk (wr.alloc (.cells #[.int .i64 qa, .int .i64 qb] 112)).drew (w.heap.size + 1 + 1) 25 #[.int .i64 0, .int .i64 0, .slice none 0 0, .slice none 0 0]) := (Br.out.alloc (.cells #[.int .i64 qa, .int .i64 qb] 112)).drew
          have HW6 := Lib.hid (bel_alloc HW.out (.cells #[.int .i64 qa, .int .i64 qb] 112)).drew
          have hne6 : Hid (wr.heap.size ≠ gm + 1 + 1) := fun e => by have := HMP.out.lt; omega
          clear HM HT HMP HQ Ba Bb Br HW a0 a1 a2 a3 b0 b1 b2 b3 g0 g1 hca hcb nw hi1a hi1b hi2a hi2b hm1a hm1b hm2a hm2b v1 v2 v3 v4 hs0 hs1 hs2 hs3 hs4
          generalize hbq' : wr.heap.size = bq at hbq hq2 hne6 ⊢
          generalize (wr.alloc (.cells #[.int .i64 qa, .int .i64 qb] 112)).drew = W6 at *
          clear hbq'
          have t0 : W6.cell? ⟨bq, 0, none⟩ = some (.int .i64 qa) := by rw [hq2.cell]; rfl
          have t1 : W6.cell? ⟨bq, 1, none⟩ = some (.int .i64 qb) := by rw [hq2.cell]; rfl
          have HQQ := Lib.hid hq2; clear hq2
          by_cases hmem : (qa, qb) ∈ L'
          · have HMEM := Lib.hid hmem
            obtain ⟨hv, hok⟩ := plcF_yes hmem
            have HV := Lib.hid hv; have HOK := Lib.hid hok
            clear hmem hv hok
            obtain ⟨z, hz⟩ : ∃ z, z = plc L' (qa, qb) := ⟨_, rfl⟩
            rw [← hz] at HV
            have HZ := Lib.hid hz.symm; clear hz
            go_wp2_with (at_lookup; go_must (refine wpList_look_ok _ rfl (.tmp 112) (.tmp 113) 113 rfl keys112 Try.underlying113 (Try.zero3 _) (gm + 1 + 1) L'.length (plcF L') rfl HMP6.out (qa, qb) rfl (.int .i64 z) true HV.out HOK.out ?_))
            · have HM := HM6; have HT := HT6; have HMP := HMP6; have HQ := HQ6; have Ba := Ba6; have Bb := Bb6; have Br := Br6; have HW := HW6
              clear HM6 HT6 HMP6 HQ6 Ba6 Bb6 Br6 HW6 t0 t1 HQQ hbq

              obtain ⟨j0, j1, j2, j3⟩ := row_bd (k := A.length) (y := y) (K := a.K) (N := N') HTAB.out.len hyl (by omega) hk2
              have v5 : IntKind.i64.wrap ((A.length : Int) * a.K) = (A.length : Int) * a.K := by rw [IntKind.wrap_i64]; omega
              have v6 : IntKind.i64.wrap ((A.length : Int) * a.K + y) = (A.length : Int) * a.K + y := by rw [IntKind.wrap_i64]; omega
              have HIX := Lib.hid (row_ix (k := A.length) (y := y) (K := a.K) (by omega))
              obtain ⟨gN, capN, hAN, _, _⟩ := HM.out.next.form (by omega)
              obtain ⟨rfl, hcN⟩ : AN2 = some ⟨gN, 0, none⟩ ∧ True := ⟨by injection hAN, trivial⟩
              clear hAN hcN
              have mm2 : W6.cell? ⟨gm, 2, none⟩ = some (.slice (some ⟨gN, 0, none⟩) N'.length cN2) := by rw [HM.out.blk.cell]; rfl
              obtain ⟨z0, qt⟩ : ∃ z0, W6.cell? ⟨gN, ((A.length : Int) * a.K + y).toNat, none⟩ = some (.int .i64 z0) := by
                have hlt' : ((A.length : Int) * a.K + y).toNat < (N'.map (Value.int .i64)).length := by rw [List.length_map]; omega
                refine ⟨N'[((A.length : Int) * a.K + y).toNat]'(by omega), ?_⟩
                rw [HM.out.next.cellAt _ (by omega), List.getElem?_eq_getElem hlt', List.getElem_map]
              have rt : W6.frozen? ⟨gN, ((A.length : Int) * a.K + y).toNat, none⟩ = false := HM.out.next.frozenAt _
              obtain ⟨⟨a0, a1, a2, a3⟩, _⟩ := blk4 Ba.out
              go_region
              go_wp2_with fail
              have HM3 := Lib.hid (HM.out.stored ((A.length : Int) * a.K + y).toNat z).drew
              have HS : Hid (Touch (MakerS gm (some ⟨gN, 0, none⟩) N'.length cN2 AA' A1.length cA') W6 (W6.setCell ⟨gN, ((A.length : Int) * a.K + y).toNat, none⟩ (.int .i64 z)).drew) := ((Touch.refl _ W6).setCell (fun _ => .inr (.inl rfl)) _).drew
              go_roundw
              case rel =>
                refine ⟨y + 1, L', _, _, _, _, _, rfl, by go_num, by omega, ?_, ?_, ?_, ?_, HM3, own_touch HT.out HS.out (fun k hk => HM.out.not_own HT.out (by decide) hk), HNB, HMP.out.touch HS.out (HM.out.not_map HMP.out), HQ.out.touch HS.out (HM.out.not_blk HQ.out (by decide)),
                  Ba.out.touch HS.out (HM.out.not_blk Ba.out (by decide)), Bb.out.touch HS.out (HM.out.not_blk Bb.out (by decide)), Br.out.touch HS.out (HM.out.not_blk Br.out (by decide)), HW.out.trans (HS.out.toBelow HW.out.size (fun k hk hS => by have := HM.out.ge (Nat.le_refl _) k hS; omega))⟩
                · exact HPK
                · exact HP.out.seen HPK.out (by rw [HSP.out]; exact HMEM.out)
                · rw [HIX.out]
                  have h := HTAB.out.put HPK.out hyl
                  rw [HSP.out, HZ.out] at h
                  exact h
                · exact HC
              case measure => simp [intOf]; omega
          · have HMEM := Lib.hid hmem
            obtain ⟨hv, hok⟩ := plcF_no hmem
            have HV := Lib.hid hv; have HOK := Lib.hid hok
            have HPF := Lib.hid (plcF_grow hmem)
            clear hmem hv hok
            obtain ⟨i112, hi112, hz112, hs112, hb112⟩ := info_parts Try.info112
            have HI := Lib.hid hi112; have HZ := Lib.hid hz112; have HSI := Lib.hid hs112; have HBY := Lib.hid hb112
            clear hi112 hz112 hs112 hb112
            go_wp2_with (first
              | (at_lookup; go_must (refine wpList_look_ok _ rfl (.tmp 112) (.tmp 113) 113 rfl keys112 Try.underlying113 (Try.zero3 _) (gm + 1 + 1) L'.length (plcF L') rfl HMP6.out (qa, qb) rfl (.int .i64 0) false HV.out HOK.out ?_))
              | (at_mapUpdate; go_must (refine wpList_store _ rfl (.tmp 121) (.tmp 122) (.tmp 123) 113 rfl keys112 Try.underlying113 (gm + 1 + 1) L'.length (plcF L') rfl HMP6.out (qa, qb) (.int .i64 ((L'.length : Nat) : Int)) rfl rfl ?_)))
            intro w7 hm7 ht7
            have hneq : bq ≠ gm + 1 + 1 := hne6.out
            have HQQ7 := Lib.hid (HQQ.out.touch ht7 hneq)
            have HM7 := Lib.hid (HM6.out.touch ht7 (fun k hk e => HM6.out.not_map HMP6.out (e ▸ hk)))
            have HT7 := Lib.hid (own_touch HT6.out ht7 (fun k hk e => HMP6.out.ne_own HT6.out (by rw [hk, e])))
            have HMP7 := Lib.hid (hm7.ext HPF.out)
            have HQ7 := Lib.hid (HQ6.out.touch ht7 (Ne.symm (HMP6.out.ne_blk HQ6.out)))
            have Ba7 := Lib.hid (Ba6.out.touch ht7 (Ne.symm (HMP6.out.ne_blk Ba6.out)))
            have Bb7 := Lib.hid (Bb6.out.touch ht7 (Ne.symm (HMP6.out.ne_blk Bb6.out)))
            have Br7 := Lib.hid (Br6.out.touch ht7 (Ne.symm (HMP6.out.ne_blk Br6.out)))
            have HW7 := Lib.hid (HW6.out.trans (ht7.toBelow HW6.out.size (fun k hk e => by omega)))
            clear HM6 HT6 HMP6 HQ6 Ba6 Bb6 Br6 HW6 HQQ t0 t1 hm7 ht7 hneq
            have t0 : w7.cell? ⟨bq, 0, none⟩ = some (.int .i64 qa) := by rw [HQQ7.out.cell]; rfl
            have t1 : w7.cell? ⟨bq, 1, none⟩ = some (.int .i64 qb) := by rw [HQQ7.out.cell]; rfl
            have HO3 := Lib.hid (HT7.out.alloc (.cells #[.int .i64 qa, .int .i64 qb] 112))
            have hL9 : L'.length ≤ 65536 := by omega
            go_wp2_with (at_builtin; go_must (refine wpList_append_own_at _ rfl (.tmp 124) (.tmp 126) 114 rfl gm 112 i112 (.agg #[.int .i64 0, .int .i64 0]) 2 16 Try.underlying114 HI.out HZ.out HSI.out HBY.out rfl (by omega) (.slice TA' L'.length tc') L'.length (flat2 L') rfl HO3.out ⟨w7.heap.size, 0, none⟩ 1 1 [.int .i64 qa, .int .i64 qb] rfl rfl (World.news_of_block (cs := #[.int .i64 qa, .int .i64 qb]) (t := 112) (fr := (0, 0)) (heap_alloc_new w7 _)) ?c2 ?c3 ?c4 ?c5 ?_))
            case c2 => intro u hu; rcases List.mem_cons.1 hu with rfl | hu; rfl; rw [List.mem_singleton.1 hu]; rfl
            case c3 => unfold maxLen; omega
            case c4 => omega
            case c5 => have := HM7.out.blk.lt; simp; omega
            intro v1 w8 hown1 hgr1 _ hat1
            obtain ⟨TA2, tc2, rfl⟩ := own_form hown1
            have HTO : Hid (Touch (fun j => (Value.slice TA' L'.length tc').ownBlock = some j) w7 w8) := ((Touch.refl _ w7).alloc _).grown hgr1 fun k hk _ => hk
            have HLN : Hid ((L' ++ [(qa, qb)]).length = L'.length + 1) := by show _ = _; simp
            have HT : Hid (w8.ownsRow gm 112 2 (.slice TA2 (L' ++ [(qa, qb)]).length tc2) (L' ++ [(qa, qb)]).length (flat2 (L' ++ [(qa, qb)]))) := by
              rw [flat2_append, List.length_append]; exact hown1
            have HNB' : Hid ((Value.slice TA2 (L' ++ [(qa, qb)]).length tc2).ownBlock ≠ some bp) := by
              have hlq := HQ7.out.lt
              have e1 : (Value.slice TA2 (L' ++ [(qa, qb)]).length tc2).ownBlock = (Value.slice TA2 (L'.length + 1) tc2).ownBlock := by rw [HLN.out]
              rw [Hid, e1]
              rcases hat1 with h | h
              · rw [h]; exact HNB.out
              · rw [h]; intro e; injection e with e; omega
            have HM := Lib.hid (HM7.out.touch HTO.out (fun k hk e => HM7.out.not_own HT7.out (by decide) e hk))
            have HMP : Hid (MapF w8 (gm + 1 + 1) (L' ++ [(qa, qb)]).length pairV (plcF (L' ++ [(qa, qb)]))) := by
              rw [HLN.out]
              exact HMP7.out.touch HTO.out (fun e => HMP7.out.ne_own HT7.out e)
            have HQ := Lib.hid (HQ7.out.touch HTO.out (fun e => HNB.out e))
            have Ba := Lib.hid (Ba7.out.touch HTO.out (fun e => own_ne_blk HT7.out Ba7.out (by decide) e))
            have Bb := Lib.hid (Bb7.out.touch HTO.out (fun e => own_ne_blk HT7.out Bb7.out (by decide) e))
            have Br := Lib.hid (Br7.out.touch HTO.out (fun e => own_ne_blk HT7.out Br7.out (by decide) e))
            have HW := Lib.hid (HW7.out.trans (HTO.out.toBelow HW7.out.size (fun k hk e => by have := (HT7.out.lt k e).1; omega)))
            clear HNB hown1 hgr1 hat1 HTO HM7 HT7 HMP7 HQ7 Ba7 Bb7 Br7 HW7 HO3 t0 t1 HQQ7 hbq
            have HNB := HNB'
            clear HNB'
            go_wp2_with fail
            obtain ⟨j0, j1, j2, j3⟩ := row_bd (k := A.length) (y := y) (K := a.K) (N := N') HTAB.out.len hyl (by omega) hk2
            have v5 : IntKind.i64.wrap ((A.length : Int) * a.K) = (A.length : Int) * a.K := by rw [IntKind.wrap_i64]; omega
            have v6 : IntKind.i64.wrap ((A.length : Int) * a.K + y) = (A.length : Int) * a.K + y := by rw [IntKind.wrap_i64]; omega
            have HIX := Lib.hid (row_ix (k := A.length) (y := y) (K := a.K) (by omega))
            obtain ⟨gN, capN, hAN, _, _⟩ := HM.out.next.form (by omega)
            obtain ⟨rfl, hcN⟩ : AN2 = some ⟨gN, 0, none⟩ ∧ True := ⟨by injection hAN, trivial⟩
            clear hAN hcN
            have mm2 : w8.cell? ⟨gm, 2, none⟩ = some (.slice (some ⟨gN, 0, none⟩) N'.length cN2) := by rw [HM.out.blk.cell]; rfl
            obtain ⟨z0, qt⟩ : ∃ z0, w8.cell? ⟨gN, ((A.length : Int) * a.K + y).toNat, none⟩ = some (.int .i64 z0) := by
              have hlt' : ((A.length : Int) * a.K + y).toNat < (N'.map (Value.int .i64)).length := by rw [List.length_map]; omega
              refine ⟨N'[((A.length : Int) * a.K + y).toNat]'(by omega), ?_⟩
              rw [HM.out.next.cellAt _ (by omega), List.getElem?_eq_getElem hlt', List.getElem_map]
            have rt : w8.frozen? ⟨gN, ((A.length : Int) * a.K + y).toNat, none⟩ = false := HM.out.next.frozenAt _
            obtain ⟨⟨a0, a1, a2, a3⟩, _⟩ := blk4 Ba.out
            go_region
            go_wp2_with fail
            have HM3 := Lib.hid (HM.out.stored ((A.length : Int) * a.K + y).toNat ((L'.length : Nat) : Int)).drew
            have HS : Hid (Touch (MakerS gm (some ⟨gN, 0, none⟩) N'.length cN2 AA' A1.length cA') w8 (w8.setCell ⟨gN, ((A.length : Int) * a.K + y).toNat, none⟩ (.int .i64 ((L'.length : Nat) : Int))).drew) := ((Touch.refl _ w8).setCell (fun _ => .inr (.inl rfl)) _).drew
            go_roundw
            case rel =>
              refine ⟨y + 1, L' ++ [(qa, qb)], _, _, _, _, _, by rw [HLN.out], by go_num, by omega, ?_, ?_, ?_, ?_, HM3, own_touch HT.out HS.out (fun k hk => HM.out.not_own HT.out (by decide) hk), HNB, HMP.out.touch HS.out (HM.out.not_map HMP.out), HQ.out.touch HS.out (HM.out.not_blk HQ.out (by decide)),
                Ba.out.touch HS.out (HM.out.not_blk Ba.out (by decide)), Bb.out.touch HS.out (HM.out.not_blk Bb.out (by decide)), Br.out.touch HS.out (HM.out.not_blk Br.out (by decide)), HW.out.trans (HS.out.toBelow HW.out.size (fun k hk hS => by have := HM.out.ge (Nat.le_refl _) k hS; omega))⟩
              · rw [List.getElem?_append_left (List.getElem?_eq_some_iff.1 HPK.out).1]; exact HPK
              · have h := HP.out.fresh HPK.out hyl (by rw [HSP.out]; exact HMEM.out)
                rw [HSP.out] at h
                exact h
              · rw [HIX.out]
                have h := HTAB.out.grown HP.out HPK.out hyl (by rw [HSP.out]; exact HMEM.out)
                rw [HSP.out] at h
                exact h
              · exact accs_grow HC.out (by rw [HA1l.out]; have := (List.getElem?_eq_some_iff.1 HPK.out).1; omega)
            case measure => simp [intOf]; omega
        · have hyK2 : (y : Int) = a.K := by omega
          have HYK := Lib.hid hyK2; clear hyK2
          have hLg : ¬ 65536 < L'.length := by omega
          have hAL' : A1.length ≤ L'.length := by
            rw [HA1l.out]; have := (List.getElem?_eq_some_iff.1 HPK.out).1; omega
          have hAM : A.length < M := by have := (List.getElem?_eq_some_iff.1 HPK.out).1; omega
          have hgk : M - A1.length < M - A.length := by rw [HA1l.out]; omega
          have HPN : Hid (PInv a b L' A1.length 0) := by rw [HA1l.out]; exact HP.out.next (by rw [HYK.out]; exact Int.le_refl _)
          have HRN : Hid (PRows a b L' N' A1.length) := by rw [HA1l.out]; exact HTAB.out.done (by rw [HYK.out]; exact Int.le_refl _)
          go_wp2_with fail
          go_roundg (M - A1.length)
          case measure => exact hgk
          case rel => exact ⟨L', N', A1, _, _, _, _, _, _, rfl, hAL', rfl, HM, HPN, HRN, HC, HT, HMP, Ba, Bb, Br, HW⟩
    · have hjl : A.length = L.length := by omega
      have HJL := Lib.hid hjl; clear hjl
      obtain ⟨⟨r0, r1, r2, r3⟩, z0, z1, z2, z3⟩ := blk4 Br.out
      have hgw2 : gm ≠ w.heap.size + 1 + 1 := by omega
      have HPR : Hid (ProdOf f a b { K := a.K, S := 0, N := N, A := A } L) := by
        refine ⟨rfl, rfl, ?_, ?_, ?_⟩
        · have h := HP.out; rw [HJL.out] at h; exact h
        · have h := HR.out; rw [HJL.out] at h; exact h
        · have h := HC.out; rw [HJL.out, List.take_length] at h; exact h
      go_wp2_with fail
      refine bodyPost_ret (v := .tuple #[dfaV a.K 0 AN N.length cN AA A.length cA, .int .i64 0]) ?_ rfl ?_
      · simp [results, Try.results86, go_sem, r0, r1, r2, r3]
      · refine ⟨_, L, HPR.out, _, rfl, ⟨AN, cN, AA, cA, rfl, ?_, ?_⟩, ?_⟩
        · exact (own_touch HM.out.next (touch4 wr (w.heap.size + 1 + 1) _ _ _ _) (fun k hk e => own_ne_blk HM.out.next Br.out (by decide) (by rw [hk, e]))).mono (by omega)
        · exact (own_touch HM.out.acc (touch4 wr (w.heap.size + 1 + 1) _ _ _ _) (fun k hk e => own_ne_blk HM.out.acc Br.out (by decide) (by rw [hk, e]))).mono (by omega)
        · exact HW.out.trans ((touch4 wr (w.heap.size + 1 + 1) _ _ _ _).toBelow HW.out.size (fun k hk e => by omega))
end Go.Proofs.Ytmpcoclgcldclaa
