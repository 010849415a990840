/- Words for the walk of the document's Least: rows of words, in memory. -/
import Derived.Test.YtmpcoclgcldclaaHJ
import Derived.Test.YtmpcoclgcldclaaC3
import Derived.Test.YtmpcoclgcldclaaAP
namespace Go.Proofs.Ytmpcoclgcldclaa
open Go.RowKit
attribute [local go_sem ↓] Go.wp_at_zero Go.wp_at_succ

/-- the slice over A reads as xs, in a block of cells of one type -/
def RdT (w : World) (t : TypeId) (A : Option Addr) (xs : List Value) : Prop :=
  0 < xs.length → ∃ (b o : Nat) (cur : Array Value), A = some ⟨b, o, none⟩ ∧ w.heap[b]? = some (.cells cur t (0, 0)) ∧ ∀ (j : Nat) (u : Value), xs[j]? = some u → cur[o + j]? = some u
section
variable {w w' : World} {t : TypeId} {A : Option Addr} {xs : List Value}
theorem RdT.rd (h : RdT w t A xs) : Rd w w.heap.size A xs := fun hn => by
  obtain ⟨b, o, cur, rfl, hb, hc⟩ := h hn
  exact ⟨b, o, rfl, lt_of_heap hb, fun j u hu => by rw [cell_of_row w b _ cur t (0, 0) hb]; exact hc j u hu⟩
theorem RdT.nil_ : RdT w t A [] := fun h => absurd h (by simp)
theorem RdT.touch {S : Nat → Prop} (h : RdT w t A xs) (ht : Touch S w w') (hS : ∀ k cur, w.heap[k]? = some (.cells cur t (0, 0)) → ¬ S k) : RdT w' t A xs := fun hn => by
  obtain ⟨b, o, cur, e, hb, hc⟩ := h hn
  exact ⟨b, o, cur, e, (ht.block b (lt_of_heap hb) (hS b cur hb)).trans hb, hc⟩
theorem RdT.up (h : RdT w t A xs) (hb : Below w.heap.size w w') : RdT w' t A xs := h.touch (Touch.ofBelow hb) fun k cur hk hge => by have := lt_of_heap hk; omega
theorem RdT.of_own {base n c : Nat} (h : w.ownsRow base t 1 (.slice A n c) n xs) : RdT w t A xs := by
  intro hl
  have hn : 0 < n := by have := h.1; omega
  rcases h.2 with ⟨h0, h1⟩ | ⟨g, cap, cur, hv, hb, hh, hnc, hm, hs, hx⟩
  · omega
  · have hA : A = some ⟨g, 0, none⟩ := by injection hv
    refine ⟨g, 0, cur, hA, hh, fun j u hu => ?_⟩
    rw [Nat.zero_add, ← hu, ← hx, List.getElem?_take_of_lt]
    · simp
    · have := (List.getElem?_eq_some_iff.1 hu).1
      have := h.1
      omega
end
/-- a word that may be none, and where it lies -/
abbrev BV := Option (List Int) × Option Addr × Nat
def bvCells (p : BV) : List Value := [.bool p.1.isSome, .slice p.2.1 (p.1.getD []).length p.2.2]
def flatB (L : List BV) : List Value := L.flatMap bvCells
theorem flatB_length (L : List BV) : (flatB L).length = L.length * 2 := by
  unfold flatB
  induction L with
  | nil => rfl
  | cons p L ih => simp only [List.flatMap_cons, List.length_append, ih, List.length_cons, bvCells, List.length_nil]; omega
theorem flatB_cons (p : BV) (L : List BV) : flatB (p :: L) = .bool p.1.isSome :: .slice p.2.1 (p.1.getD []).length p.2.2 :: flatB L := rfl
theorem flatB_at : ∀ (L : List BV) (j : Nat) (p : BV), L[j]? = some p → (flatB L)[2 * j]? = some (.bool p.1.isSome) ∧ (flatB L)[2 * j + 1]? = some (.slice p.2.1 (p.1.getD []).length p.2.2)
  | [], j, p, h => by simp at h
  | q :: L, 0, p, h => by
    have : q = p := by simpa using h
    subst this
    exact ⟨rfl, rfl⟩
  | q :: L, j + 1, p, h => by
    have h' : L[j]? = some p := by simpa using h
    obtain ⟨h1, h2⟩ := flatB_at L j p h'
    rw [flatB_cons, show 2 * (j + 1) = 2 * j + 1 + 1 by omega]
    exact ⟨by simpa using h1, by simpa using h2⟩
theorem flatB_set : ∀ (T : List BV) (i : Nat) (q : BV), flatB (T.set i q) = ((flatB T).set (2 * i) (.bool q.1.isSome)).set (2 * i + 1) (.slice q.2.1 (q.1.getD []).length q.2.2)
  | [], i, q => by simp [flatB]
  | p :: T, 0, q => rfl
  | p :: T, i + 1, q => by
    have ih := flatB_set T i q
    rw [List.set_cons_succ, flatB_cons, ih, flatB_cons, show 2 * (i + 1) = 2 * i + 1 + 1 by omega]
    rfl
theorem flatB_replicate (n : Nat) : flatB (List.replicate n (none, none, 0)) = (List.replicate n [Value.bool false, Value.slice none 0 0]).flatten := by
  unfold flatB
  induction n with
  | zero => rfl
  | succ n ih => rw [List.replicate_succ, List.flatMap_cons, ih, List.replicate_succ, List.flatten_cons]; rfl
def WordIn (w : World) (p : BV) : Prop := RdT w 3 p.2.1 ((p.1.getD []).map (Value.int .i64))
def opts (R : List BV) : Row := R.map Prod.fst
theorem opts_len (R : List BV) : (opts R).length = R.length := by simp [opts]
theorem opts_set (R : List BV) (i : Nat) (p : BV) : opts (R.set i p) = (opts R).set i p.1 := by simp [opts, List.map_set]
theorem opts_at {R : List BV} {s : Int} {p : BV} (h : R[s.toNat]? = some p) : rowAt (opts R) s = p.1 := by
  unfold rowAt opts
  rw [List.getD_eq_getElem?_getD, List.getElem?_map, h]
  rfl
section
variable {α : Type} {w w' : World} {base : Nat} {eO eI : TypeId} {size : Nat} {fl : List α → List Value} {AO : Option Addr} {c : Nat} {L : List (List α)} {vs : List Value}
theorem Nest.keep {S : Nat → Prop} (h : Nest w base eO eI size fl AO c L vs) (ht : Touch S w w') (hO : ∀ k, (Value.slice AO L.length c).ownBlock = some k → ¬ S k) (hI : ∀ (t : Nat) (u : Value) (k : Nat), vs[t]? = some u → u.ownBlock = some k → ¬ S k) : Nest w' base eO eI size fl AO c L vs where
  vlen := h.vlen
  outer := own_touch h.outer ht hO
  inner := fun s l hl => by
    obtain ⟨A, c', h1, h2⟩ := h.inner s l hl
    exact ⟨A, c', h1, own_touch h2 ht fun k hk => hI s _ k h1 hk⟩
  sep := h.sep
end
/-- what lies in memory while the rows are made: the automaton's variable, the result's, the rows that are done -/
structure LW (w wr : World) (d : D) (An : Option Addr) (cn : Nat) (Aa : Option Addr) (ca : Nat) (AL : Option Addr) (cl : Nat) (LL : List (List BV)) (vsL : List Value) : Prop where
  box : BlkD wr w.heap.size d An cn Aa ca
  res : Blk wr (w.heap.size + 1) 46 #[.bool false, .slice none 0 0]
  nest : Nest wr w.heap.size 93 46 2 flatB AL cl LL vsL
  words : ∀ R ∈ LL, ∀ p ∈ R, WordIn wr p
  innr : ∀ (t : Nat) (u : Value) (k : Nat), vsL[t]? = some u → u.ownBlock = some k → k ≠ w.heap.size + 1
  bel : Below w.heap.size w wr
section
variable {w wr w2 : World} {d : D} {An Aa AL : Option Addr} {cn ca cl : Nat} {LL : List (List BV)} {vsL : List Value}
theorem LW.up (h : LW w wr d An cn Aa ca AL cl LL vsL) (hb : Below wr.heap.size wr w2) : LW w w2 d An cn Aa ca AL cl LL vsL where
  box := blk_below h.box hb
  res := blk_below h.res hb
  nest := h.nest.below hb
  words := fun R hR p hp => (h.words R hR p hp).up hb
  innr := h.innr
  bel := bel_step h.bel hb
theorem LW.alloc (h : LW w wr d An cn Aa ca AL cl LL vsL) (o : Obj) : LW w (wr.alloc o) d An cn Aa ca AL cl LL vsL := h.up (bel_new wr o)
theorem LW.drewN (h : LW w wr d An cn Aa ca AL cl LL vsL) (n : Nat) : LW w (wr.drewN n) d An cn Aa ca AL cl LL vsL := h.up (bel_drewN (Below.refl _ _) n)
/-- a block of words has been written that is none of these -/
theorem LW.touch {k : Nat} (h : LW w wr d An cn Aa ca AL cl LL vsL) (ht : Touch (fun j => j = k) wr w2) (hk : w.heap.size + 1 < k) (hT : ∃ cur, wr.heap[k]? = some (.cells cur 46 (0, 0))) (hI : ∀ (t : Nat) (u : Value) (j : Nat), vsL[t]? = some u → u.ownBlock = some j → j ≠ k) : LW w w2 d An cn Aa ca AL cl LL vsL where
  box := h.box.touch ht (by omega)
  res := h.res.touch ht (by omega)
  nest := h.nest.keep ht (fun j hj e => by
    subst e
    obtain ⟨cur, hc⟩ := own_heap h.nest.outer hj
    obtain ⟨cur2, hc2⟩ := hT
    rw [hc] at hc2
    injection hc2 with hc2
    injection hc2 with _ hc2
    exact absurd hc2 (by decide)) hI
  words := fun R hR p hp => (h.words R hR p hp).touch ht fun j cur hj e => by
    subst e
    obtain ⟨cur2, hc2⟩ := hT
    rw [hj] at hc2
    injection hc2 with hc2
    injection hc2 with _ hc2
    exact absurd hc2 (by decide)
  innr := h.innr
  bel := h.bel.trans (ht.toBelow h.bel.size fun j hj e => by omega)
end
abbrev boxD (d : D) (An : Option Addr) (cn : Nat) (Aa : Option Addr) (ca : Nat) : Obj := .cells #[.int .i64 d.K, .int .i64 d.S, .slice An d.N.length cn, .slice Aa d.A.length ca] 25
/-- the row that is being made -/
structure RW (w wr : World) (gr n : Nat) (R : List BV) (vsL : List Value) : Prop where
  rlen : R.length = n
  row : wr.ownsRow w.heap.size 46 2 (.slice (some ⟨gr, 0, none⟩) n n) n (flatB R)
  rwords : ∀ p ∈ R, WordIn wr p
  far : ∀ (t : Nat) (u : Value) (k : Nat), vsL[t]? = some u → u.ownBlock = some k → k ≠ gr
  lo : w.heap.size + 1 < gr
section
variable {w wr w2 : World} {gr n : Nat} {R : List BV} {vsL : List Value}
theorem RW.up (h : RW w wr gr n R vsL) (hb : Below wr.heap.size wr w2) : RW w w2 gr n R vsL := ⟨h.rlen, own_below h.row hb, fun p hp => (h.rwords p hp).up hb, h.far, h.lo⟩
theorem RW.typ (h : RW w wr gr n R vsL) : ∃ cur, wr.heap[gr]? = some (.cells cur 46 (0, 0)) := own_heap h.row rfl
theorem RW.at_ (h : RW w wr gr n R vsL) {s : Nat} (hs : s < R.length) : ∃ o A c, R[s]? = some (o, A, c) ∧ wr.cell? ⟨gr, s * 2, none⟩ = some (.bool o.isSome) ∧ wr.cell? ⟨gr, s * 2 + 1, none⟩ = some (.slice A (o.getD []).length c) ∧ WordIn wr (o, A, c) := by
  obtain ⟨⟨o, A, c⟩, hp⟩ : ∃ p, R[s] = p := ⟨_, rfl⟩
  have he : R[s]? = some (o, A, c) := by rw [List.getElem?_eq_getElem hs, hp]
  obtain ⟨f1, f2⟩ := flatB_at R s _ he
  refine ⟨o, A, c, he, ?_, ?_, h.rwords _ (List.mem_of_getElem? he)⟩
  · rw [h.row.cellAt _ (by have := h.rlen; omega), Nat.mul_comm]; exact f1
  · rw [h.row.cellAt _ (by have := h.rlen; omega), Nat.mul_comm]; exact f2
/-- a word is put down -/
theorem RW.set_ (h : RW w wr gr n R vsL) (i : Nat) (p : BV) (hp : WordIn wr p) :
    RW w ((wr.setCell ⟨gr, i * 2, none⟩ (.bool p.1.isSome)).setCell ⟨gr, i * 2 + 1, none⟩ (.slice p.2.1 (p.1.getD []).length p.2.2)) gr n (R.set i p) vsL := by
  have ht := touch_two wr gr i (.bool p.1.isSome) (.slice p.2.1 (p.1.getD []).length p.2.2)
  have hT : ∀ k cur, wr.heap[k]? = some (.cells cur 3 (0, 0)) → ¬ k = gr := fun k cur hk e => by
    subst e
    obtain ⟨cur2, hc2⟩ := h.typ
    rw [hk] at hc2
    injection hc2 with hc2
    injection hc2 with _ hc2
    exact absurd hc2 (by decide)
  refine ⟨by rw [List.length_set]; exact h.rlen, ?_, ?_, h.far, h.lo⟩
  · rw [flatB_set]
    exact own_two h.row i _ _
  · intro q hq
    rcases List.mem_or_eq_of_mem_set hq with hq | rfl
    · exact (h.rwords q hq).touch ht hT
    · exact hp.touch ht hT
end
/-- the row is put behind the others -/
theorem LW.push {w wr w3 : World} {d : D} {An Aa AL AL' : Option Addr} {cn ca cl cl' gr n : Nat} {LL : List (List BV)} {R : List BV} {vsL : List Value} (h : LW w wr d An cn Aa ca AL cl LL vsL) (hr : RW w wr gr n R vsL)
    (ho : w3.ownsRow w.heap.size 93 1 (.slice AL' (LL.length + 1) cl') (LL.length + 1) (vsL ++ [.slice (some ⟨gr, 0, none⟩) n n])) (hg : wr.grownBy w3 (Value.slice AL LL.length cl).ownBlock) :
    LW w w3 d An cn Aa ca AL' cl' (LL ++ [R]) (vsL ++ [.slice (some ⟨gr, 0, none⟩) n n]) := by
  have ht := Touch.ofGrown hg
  have hT : ∀ {k : Nat} {t : TypeId} {cur : Array Value}, wr.heap[k]? = some (.cells cur t (0, 0)) → t ≠ 93 → ¬ some k = (Value.slice AL LL.length cl).ownBlock := fun hk hne e => by
    obtain ⟨cur2, hc2⟩ := own_heap h.nest.outer e.symm
    rw [hk] at hc2
    injection hc2 with hc2
    injection hc2 with _ hc2
    exact hne hc2
  have hl := hr.rlen
  subst hl
  refine ⟨h.box.touch ht (hT h.box (by decide)), h.res.touch ht (hT h.res (by decide)), h.nest.push (l := R) (by decide) hr.row (fun t u k hu hk e => ?_) ho hg, ?_, ?_, h.bel.trans (ht.toBelow h.bel.size fun k hk e => by have := (h.nest.outer.lt k e.symm).1; omega)⟩
  · have : gr = k := by simpa [Value.ownBlock] using e
    exact hr.far t u k hu hk this.symm
  · intro R' hR' p hp
    rcases List.mem_append.1 hR' with hR' | hR'
    · exact (h.words R' hR' p hp).touch ht fun k cur hk => hT hk (by decide)
    · rw [List.mem_singleton.1 hR'] at hp
      exact (hr.rwords p hp).touch ht fun k cur hk => hT hk (by decide)
  · intro t u k hu hk
    by_cases htl : t < vsL.length
    · rw [List.getElem?_append_left htl] at hu
      exact h.innr t u k hu hk
    · rw [List.getElem?_append_right (by omega)] at hu
      have h0 : t - vsL.length = 0 := by
        have := (List.getElem?_eq_some_iff.1 hu).1
        simp at this
        omega
      rw [h0] at hu
      simp only [List.getElem?_cons_zero] at hu
      obtain rfl := Option.some.inj hu
      have : gr = k := by simpa [Value.ownBlock] using hk
      have := hr.lo
      omega
/-- another block of words has been written -/
theorem RW.other {w wr w2 : World} {gr n k : Nat} {R : List BV} {vsL : List Value} (h : RW w wr gr n R vsL) (ht : Touch (fun j => j = k) wr w2) (hk : gr ≠ k) (hT : ∃ cur, wr.heap[k]? = some (.cells cur 46 (0, 0))) : RW w w2 gr n R vsL :=
  ⟨h.rlen, own_touch h.row ht (fun j hj e => by
    have : gr = j := by simpa [Value.ownBlock] using hj
    omega), fun p hp => (h.rwords p hp).touch ht fun j cur hj e => by
    subst e
    obtain ⟨cur2, hc2⟩ := hT
    rw [hj] at hc2
    injection hc2 with hc2
    injection hc2 with _ hc2
    exact absurd hc2 (by decide), h.far, h.lo⟩
theorem Blk.two {w : World} {g : Nat} {t : TypeId} {a b : Value} (h : Blk w g t #[a, b]) (u v : Value) : Blk ((w.setCell ⟨g, 0, none⟩ u).setCell ⟨g, 1, none⟩ v) g t #[u, v] ∧ Touch (fun j => j = g) w ((w.setCell ⟨g, 0, none⟩ u).setCell ⟨g, 1, none⟩ v) :=
  ⟨(h.set_ 0 u).set_ 1 v, ((Touch.refl (fun j => j = g) w).setCell (p := ⟨g, 0, none⟩) (fun _ => rfl) u).setCell (p := ⟨g, 1, none⟩) (fun _ => rfl) v⟩
theorem made_flatB (n : Nat) : (madeCells #[.bool false, .slice none 0 0] (n * 2)).toList = flatB (List.replicate n (none, none, 0)) := by
  induction n with
  | zero => simp [madeCells, flatB]
  | succ n ih =>
    have e : flatB (List.replicate (n + 1) (none, none, 0)) = flatB (List.replicate n (none, none, 0)) ++ [.bool false, .slice none 0 0] := by
      rw [List.replicate_succ']
      simp [flatB, bvCells]
    rw [e, ← ih]
    unfold madeCells
    simp only [Array.toList_map, Array.toList_range]
    rw [show (n + 1) * 2 = n * 2 + 1 + 1 by omega, List.range_succ, List.range_succ, List.map_append, List.map_append, List.append_assoc]
    congr 1
    have h1 : n * 2 % 2 = 0 := by omega
    have h2 : (n * 2 + 1) % 2 = 1 := by omega
    simp [h1, h2]
/-- the row, whether it is the one of no cost or another one -/
def RQ (d : D) (cs : List Int) (c x : Int) (row : Row) : Prop := if c = 0 then RowP d (CW d cs 0) row else RowP d (CP d cs c x 0) row
section
variable {d : D} {cs : List Int} {c x : Int} {row : Row}
theorem RQ.skip (h : RQ d cs c x row) (hf : Fit d cs) (hx : c < cst cs x) : RQ d cs c (x + 1) row := by
  unfold RQ at h ⊢
  split
  · rename_i e; rw [if_pos e] at h; exact h
  · rename_i e; rw [if_neg e] at h; exact row_skip hf h hx
theorem RQ.toRow (h : RQ d cs c x row) (hc : 1 ≤ c) : RowP d (CP d cs c x 0) row := by
  unfold RQ at h
  rwa [if_neg (by omega)] at h
theorem RQ.of (h : RowP d (CP d cs c x 0) row) (hc : 1 ≤ c) : RQ d cs c x row := by
  unfold RQ
  rw [if_neg (by omega)]
  exact h
theorem RQ.done (h : RQ d cs c d.K row) (hc : 0 ≤ c) : RowP d (CW d cs c) row := by
  unfold RQ at h
  split at h
  · rename_i e; subst e; exact h
  · exact row_done (by omega) h
end
set_option maxHeartbeats 2000000 in
set_option maxRecDepth 100000 in
/-- Smaller only reads -/
theorem smaller_quiet (A B : Option Addr) (c c2 : Nat) (a b : List Int) (w : World) (ha : WIn w a A) (hb : WIn w b B) : Calls Try.prog 54 #[.slice A a.length c, .slice B b.length c2] w fun e w' => e = .returned (.bool (smB a b)) ∧ ∃ m, w' = w.drewN m := by
  have HLa := ha.l
  have HLb := hb.l
  have HA := Lib.hid ha; have HB := Lib.hid hb
  clear ha hb
  go_enter Try.func54, Try.ntmps54
  go_wp2_with fail
  go_loopw [5] (fun i wr => ∃ k m : Nat, k ≤ a.length ∧ k ≤ b.length ∧ i = .int .i64 k ∧ Hid (a.take k = b.take k) ∧ Hid (wr = w.drewN m)) (fun i _ => a.length - (intOf i).toNat)
  case atStart => exact ⟨0, 0, Nat.zero_le _, Nat.zero_le _, rfl, rfl, rfl⟩
  case round =>
    obtain ⟨k, m, hka, hkb, rfl, HT, HW⟩ := hrel
    have HRA : Rd wr w.heap.size A (a.map (Value.int .i64)) := by rw [HW.out]; exact HA.out.r.drewN m
    have HRB : Rd wr w.heap.size B (b.map (Value.int .i64)) := by rw [HW.out]; exact HB.out.r.drewN m
    have HSZ : w.heap.size = wr.heap.size := by rw [HW.out]; rfl
    rw [HSZ] at HRA HRB
    have HRA := Lib.hid HRA; have HRB := Lib.hid HRB
    clear HSZ
    by_cases h1 : k < a.length
    · by_cases h2 : k < b.length
      · obtain ⟨ga, oa, x, rfl, hga, hca, hx⟩ := HRA.out.int_at h1
        obtain ⟨gb, ob, y, rfl, hgb, hcb, hy⟩ := HRB.out.int_at h2
        have HX := Lib.hid hx; have HY := Lib.hid hy
        clear hx hy
        by_cases hxy : x = y
        · subst hxy
          have HN : Hid (a.take (k + 1) = b.take (k + 1)) := take_same HT.out HX.out HY.out
          go_wp2_with fail
          go_quiet (fail)
          go_wp2_with fail
          go_roundw
          case rel => exact ⟨k + 1, m + nq, by omega, by omega, by go_num, HN, by rw [HW.out]; exact World.drewN_drewN _ _ _⟩
          case measure => simp [intOf]; omega
        · have hne : (x != y) = true := by simpa using hxy
          have HR : Hid (smB a b = decide (x < y)) := smB_at HT.out HX.out HY.out hxy
          clear hxy
          go_wp2_with fail
          go_quiet (fail)
          go_wp2_with fail
          go_quiet (fail)
          go_wp2_with fail
          go_ret
          exact ⟨by rw [HR.out]; rfl, _, by rw [HW.out, World.drewN_drewN, World.drewN_drewN]⟩
      · have HR : Hid (smB a b = false) := smB_end HT.out (.inr (by omega))
        go_wp2_with fail
        go_ret
        exact ⟨by rw [HR.out]; rfl, m, HW.out⟩
    · have HR : Hid (smB a b = false) := smB_end HT.out (.inl (by omega))
      go_wp2_with fail
      go_ret
      exact ⟨by rw [HR.out]; rfl, m, HW.out⟩
end Go.Proofs.Ytmpcoclgcldclaa
