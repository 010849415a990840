/- The walk of tight's prepared. -/
import Derived.Test.YtmpcoclgcldclaaUI
import Derived.Test.YtmpcoclgcldclaaUH
import Derived.Test.YtmpcoclgcldclaaTP
import Derived.Test.YtmpcoclgcldclaaPeel
import Derived.Handy
import Derived.StillTailTactics
import Derived.Deep.RegionHeld3
import Derived.Deep.DeepCutAuto
namespace Go.Proofs.Ytmpcoclgcldclaa
open Go.RowKit
attribute [local go_sem ↓] Go.wp_at_zero Go.wp_at_succ

/-- what prepared gives -/
def PrepR (d : D) (An : Option Addr) (cn : Nat) (Aa : Option Addr) (ca : Nat) (w : World) (e : Ending) (w' : World) : Prop :=
  ∃ (gs : Nat) (s : SS), e = .returned (.pointer (some ⟨gs, 0, none⟩)) ∧ SW w w' d An cn Aa ca gs s ∧ BackOk d s.B ∧ (s.H = fun _ => none) ∧ s.cls = accCls d d.A.length ∧ s.M.map Prod.snd = accM d d.A.length ∧ s.T.map Prod.snd = accM d d.A.length
theorem backN_len (d : D) (f : Nat) (t y : Int) : (backN d f t y).length ≤ f := by
  unfold backN
  rw [List.length_map]
  have := List.length_filter_le (fun (s : Nat) => decide (d.step (s : Int) y = t)) (List.range f)
  rwa [List.length_range] at this
theorem accCls_zero (d : D) : accCls d 0 = List.replicate d.A.length 0 := by
  unfold accCls
  refine List.ext_getElem (by simp) fun i h1 h2 => ?_
  simp
theorem accCls_new {d : D} {f : Nat} (hf : f < d.A.length) : (accCls d f)[f]? = some 0 := by
  unfold accCls
  rw [List.getElem?_map, List.getElem?_range hf]
  simp
theorem ownMade (X : World) (base n g : Nat) (e : TypeId) (z : Value) (hg : g = X.heap.size) (hb : base ≤ X.heap.size) (hn : n ≤ 1000000000) :
    (X.alloc (.cells (madeCells #[z] n) e)).ownsRow base e 1 (.slice (some ⟨g, 0, none⟩) n n) n (List.replicate n z) := by
  subst hg
  have h := World.ownsRow_lit (base := base) (e := e) (size := 1) X (madeCells #[z] n) n hb (by unfold maxLen; omega) (by rw [size_madeCells, Nat.mul_one])
  rw [toList_madeCells_one] at h
  exact h
section
variable {w W0 wi : World} {d : D} {An Aa : Option Addr} {cn ca gs : Nat} {s : SS}
theorem SW.rebase (h : SW W0 wi d An cn Aa ca gs s) (hb : Below w.heap.size w W0) : SW w wi d An cn Aa ca gs s where
  fam := ⟨fun t r hr => (h.fam.own t r hr).mono hb.size, h.fam.sep⟩
  blk := h.blk
  bel := hb.trans (h.bel.mono hb.size)
  lo := Nat.le_trans hb.size h.lo
end
/-- the split while the table is laid: states below f; of f the first x symbols -/
structure PW (W0 wi : World) (d : D) (An : Option Addr) (cn : Nat) (Aa : Option Addr) (ca gs f f2 x : Nat) (s : SS) : Prop where
  sw : SW W0 wi d An cn Aa ca gs s
  back : BackIn d f x s.B
  cls : s.cls = accCls d f2
  mem : s.M.map Prod.snd = accM d f2
  todo : s.T = []
  vt : s.vt = .slice none 0 0
  hits : s.H = fun _ => none
set_option maxHeartbeats 16000000 in
set_option maxRecDepth 100000 in
theorem prepared_any (d : D) (An Aa : Option Addr) (cn ca : Nat) (w : World) (hd : DIn w d An Aa) (hok : d.Ok) :
    Calls Try.prog 119 #[dfaV d.K d.S An d.N.length cn Aa d.A.length ca] w (PrepR d An cn Aa ca w) := by
  have HOK := Lib.hid hok
  have hA2 : d.A.length ≤ 65536 := hok.2.2.2.1
  have hA1 : 1 ≤ d.A.length := hok.2.2.1
  have hK1 : 1 ≤ d.K := hok.1
  have hK2 : d.K ≤ 512 := hok.2.1
  obtain ⟨i22, hi, hz, hs2, hb2⟩ := info_parts Try.info22
  have HI2 := Lib.hid hi; have HZ2 := Lib.hid hz; have HS2 := Lib.hid hs2; have HB2 := Lib.hid hb2
  clear hi hz hs2 hb2
  obtain ⟨i3, hi, hz, hs2, hb2⟩ := info_parts Try.info3
  have HI3 := Lib.hid hi; have HZ3 := Lib.hid hz; have HS3 := Lib.hid hs2; have HB3 := Lib.hid hb2
  clear hi hz hs2 hb2
  obtain ⟨nb, hnb⟩ : ∃ nb, nb = d.A.length * d.K.toNat := ⟨_, rfl⟩
  have hnbl : nb ≤ 33554432 := by rw [hnb]; exact Nat.le_trans (Nat.mul_le_mul hA2 (show d.K.toNat ≤ 512 by omega)) (by omega)
  have hnbI : (d.A.length : Int) * d.K = (nb : Nat) := by
    obtain ⟨k, hk⟩ := Int.eq_ofNat_of_zero_le (show 0 ≤ d.K by omega)
    rw [hnb, hk, Int.toNat_natCast]; simp
  have HNB := Lib.hid hnb
  have hvnb : IntKind.i64.wrap ((nb : Nat) : Int) = (nb : Nat) := by rw [IntKind.wrap_i64]; omega
  have hmkb : ∀ W : World, (Instr.makeSlice 131 (.int .i64 (nb : Int)) (.int .i64 (nb : Int))).run Try.prog W = .ok (.slice (some ⟨W.heap.size, 0, none⟩) nb nb) (W.alloc (.cells (madeCells #[.slice none 0 0] nb) 22)) := fun W => by
    have h := run_make_rowN (P := Try.prog) 131 22 i22 (.slice none 0 0) Try.underlying131 HI2.out HZ2.out .i64 .i64 nb nb (Nat.le_refl _) (by rw [HB2.out]; omega) (by omega) W
    rw [HS2.out, Nat.mul_one] at h
    exact h
  have hmkm : ∀ W : World, (Instr.makeSlice 131 (.int .i64 2) (.int .i64 2)).run Try.prog W = .ok (.slice (some ⟨W.heap.size, 0, none⟩) 2 2) (W.alloc (.cells (madeCells #[.slice none 0 0] 2) 22)) := fun W => by
    have h := run_make_rowN (P := Try.prog) 131 22 i22 (.slice none 0 0) Try.underlying131 HI2.out HZ2.out .i64 .i64 2 2 (Nat.le_refl _) (by rw [HB2.out]; omega) (by omega) W
    rw [HS2.out, Nat.mul_one] at h
    exact h
  have hmkc : ∀ W : World, (Instr.makeSlice 22 (.int .i64 (d.A.length : Int)) (.int .i64 (d.A.length : Int))).run Try.prog W = .ok (.slice (some ⟨W.heap.size, 0, none⟩) d.A.length d.A.length) (W.alloc (.cells (madeCells #[.int .i64 0] d.A.length) 3)) := fun W => by
    have h := run_make_rowN (P := Try.prog) 22 3 i3 (.int .i64 0) Try.underlying22 HI3.out HZ3.out .i64 .i64 d.A.length d.A.length (Nat.le_refl _) (by rw [HB3.out]; omega) (by omega) W
    rw [HS3.out, Nat.mul_one] at h
    exact h
  have HBX := Lib.hid (Blk.new w 25 #[.int .i64 d.K, .int .i64 d.S, .slice An d.N.length cn, .slice Aa d.A.length ca])
  have HW := Lib.hid (bel_new w (.cells #[.int .i64 d.K, .int .i64 d.S, .slice An d.N.length cn, .slice Aa d.A.length ca] 25))
  have HDA := Lib.hid (hd.alloc (.cells #[.int .i64 d.K, .int .i64 d.S, .slice An d.N.length cn, .slice Aa d.A.length ca] 25))
  have HWS : Hid ((w.alloc (.cells #[.int .i64 d.K, .int .i64 d.S, .slice An d.N.length cn, .slice Aa d.A.length ca] 25)).heap.size = w.heap.size + 1) := size_alloc_one _ _
  clear hd hok hnb
  generalize hW0 : w.alloc (.cells #[.int .i64 d.K, .int .i64 d.S, .slice An d.N.length cn, .slice Aa d.A.length ca] 25) = W0 at HBX HW HDA HWS
  obtain ⟨⟨a0, a1, a2, a3⟩, _⟩ := blk4 HBX.out
  have hlt := HBX.out.lt
  have HBXW : Hid (∀ w' s gs, SW W0 w' d An cn Aa ca gs s → Blk w' w.heap.size 25 #[.int .i64 d.K, .int .i64 d.S, .slice An d.N.length cn, .slice Aa d.A.length ca]) := fun w' s gs h => HBX.out.below h.bel (by rw [HWS.out]; omega)
  go_enter Try.func119, Try.ntmps119
  go_upto_region 2 with fail
  go_cut [4, 16, 18, 19, 20, 21] (fun v4 _ _ _ _ _ wx => ∃ gs gb gc gm : Nat, v4 = .pointer (some ⟨gs, 0, none⟩) ∧ Hid (SW W0 wx d An cn Aa ca gs (startS gb gc gm nb d.A.length)))
  case first =>
    refine wp_region_peelF (S := fun w' => w'.cell? ⟨w.heap.size, 0, none⟩ = some (.int .i64 d.K) ∧ w'.cell? ⟨w.heap.size, 1, none⟩ = some (.int .i64 d.S) ∧ w'.cell? ⟨w.heap.size, 2, none⟩ = some (.slice An d.N.length cn) ∧ w'.cell? ⟨w.heap.size, 3, none⟩ = some (.slice Aa d.A.length ca)) (List.cons_ne_nil _ _) (by kernel_rfl) (by kernel_rfl) (⟨a0, a1, a2, a3⟩) (fun hHeld => ?_)
    simp only [List.dropLast_cons_cons, List.dropLast_singleton, List.length_cons, List.length_nil, Nat.zero_add, Nat.reduceAdd]
    refine wpAnyH_take (i := 0) (v := ?_) rfl (by kernel_rfl) (by kernel_rfl) (by kernel_rfl) (fun _ _ _ h => h) (Or.inl ⟨by rfl, ?_⟩) (by assumption) ?_
    rotate_left 1
    · intro w hSw; (try dsimp only at hSw); go_simp; first | done | with_reducible rfl
    try simp only [Act.put]
    refine wpAnyH_take (i := 1) (v := ?_) rfl (by kernel_rfl) (by kernel_rfl) (by kernel_rfl) (fun _ _ _ h => h) (Or.inl ⟨by rfl, ?_⟩) (by assumption) ?_
    rotate_left 1
    · intro w hSw; (try dsimp only at hSw); go_simp; first | done | with_reducible rfl
    try simp only [Act.put]
    refine wpAnyH_take (i := 2) (v := ?_) rfl (by kernel_rfl) (by kernel_rfl) (by kernel_rfl) (fun _ _ _ h => h) (Or.inl ⟨by rfl, ?_⟩) (by assumption) ?_
    rotate_left 1
    · intro w hSw; (try dsimp only at hSw); go_simp; first | done | with_reducible rfl
    try simp only [Act.put]
    refine wpAnyH_take (i := 3) (v := ?_) rfl (by kernel_rfl) (by kernel_rfl) (by kernel_rfl) (fun _ _ _ h => h) (Or.inl ⟨by rfl, ?_⟩) (by assumption) ?_
    rotate_left 1
    · intro w hSw; (try dsimp only at hSw); go_simp; first | done | with_reducible rfl
    try simp only [Act.put]
    refine wpAnyH_take (i := 4) (v := ?_) rfl (by kernel_rfl) (by kernel_rfl) (by kernel_rfl) (fun _ _ _ h => h) (Or.inl ⟨by rfl, ?_⟩) (by assumption) ?_
    rotate_left 1
    · intro w hSw; (try dsimp only at hSw); go_simp; first | done | with_reducible rfl
    try simp only [Act.put]
    refine wpAnyH_take (i := 6) (v := ?_) rfl (by kernel_rfl) (by kernel_rfl) (by kernel_rfl) (fun _ _ _ h => h) (Or.inl ⟨by rfl, ?_⟩) (by assumption) ?_
    rotate_left 1
    · intro w hSw; (try dsimp only at hSw); go_simp; first | done | with_reducible rfl
    try simp only [Act.put]
    refine wpAnyH_ready (rs := [5, 7, 8]) (by kernel_rfl) (by simp) (AllReadyH.cons rfl (fun K hK => ?_) (AllReadyH.cons rfl (fun K hK => ?_) (AllReadyH.cons rfl (fun K hK => ?_) (AllReadyH.nil))))
    · go_simp
      refine hK.out _ _ (⟨(World.cell?_alloc_lt _ _ ⟨w.heap.size, 0, none⟩ (by simp; omega)).trans hHeld.1, (World.cell?_alloc_lt _ _ ⟨w.heap.size, 1, none⟩ (by simp; omega)).trans hHeld.2.1, (World.cell?_alloc_lt _ _ ⟨w.heap.size, 2, none⟩ (by simp; omega)).trans hHeld.2.2.1, (World.cell?_alloc_lt _ _ ⟨w.heap.size, 3, none⟩ (by simp; omega)).trans hHeld.2.2.2⟩) (fun hHeld => ?_)
      clear hK K
      try simp only [Act.put]
      refine wpAnyH_ready (rs := [7, 8]) (by kernel_rfl) (by simp) (AllReadyH.cons rfl (fun K hK => ?_) (AllReadyH.cons rfl (fun K hK => ?_) (AllReadyH.nil)))
      · go_simp
        refine hK.out _ _ (⟨(World.cell?_alloc_lt _ _ ⟨w.heap.size, 0, none⟩ (by simp; omega)).trans hHeld.1, (World.cell?_alloc_lt _ _ ⟨w.heap.size, 1, none⟩ (by simp; omega)).trans hHeld.2.1, (World.cell?_alloc_lt _ _ ⟨w.heap.size, 2, none⟩ (by simp; omega)).trans hHeld.2.2.1, (World.cell?_alloc_lt _ _ ⟨w.heap.size, 3, none⟩ (by simp; omega)).trans hHeld.2.2.2⟩) (fun hHeld => ?_)
        clear hK K
        try simp only [Act.put]
        refine wpAnyH_ready (rs := [8]) (by kernel_rfl) (by simp) (AllReadyH.cons rfl (fun K hK => ?_) (AllReadyH.nil))
        · go_simp
          refine hK.out _ _ (⟨(World.cell?_alloc_lt _ _ ⟨w.heap.size, 0, none⟩ (by simp; omega)).trans hHeld.1, (World.cell?_alloc_lt _ _ ⟨w.heap.size, 1, none⟩ (by simp; omega)).trans hHeld.2.1, (World.cell?_alloc_lt _ _ ⟨w.heap.size, 2, none⟩ (by simp; omega)).trans hHeld.2.2.1, (World.cell?_alloc_lt _ _ ⟨w.heap.size, 3, none⟩ (by simp; omega)).trans hHeld.2.2.2⟩) (fun hHeld => ?_)
          clear hK K
          try simp only [Act.put]
          refine wpAnyH_take (i := 9) (v := ?_) rfl (by kernel_rfl) (by kernel_rfl) (by kernel_rfl) (fun _ _ _ h => h) (Or.inl ⟨by rfl, ?_⟩) (by assumption) ?_
          rotate_left 1
          · intro w hSw; (try dsimp only at hSw); go_simp; first | done | with_reducible rfl
          try simp only [Act.put]
          refine wpAnyH_ready (rs := [10]) (by kernel_rfl) (by simp) (AllReadyH.cons rfl (fun K hK => ?_) AllReadyH.nil)
          go_simp
          have hb := ((((ownMade W0.drew W0.heap.size nb (W0.heap.size) 22 (.slice none 0 0) (by simp) (by simp; try omega) (by omega)).alloc (.cells (madeCells #[.int .i64 0] d.A.length) 3)).alloc (.cells (madeCells #[.slice none 0 0] 2) 22)).alloc (.cells #[.int .i64 d.K, .int .i64 d.S, .slice An d.N.length cn, .slice Aa d.A.length ca, .slice (some ⟨W0.heap.size, 0, none⟩) nb nb, .slice (some ⟨W0.heap.size + 1, 0, none⟩) d.A.length d.A.length, .slice (some ⟨W0.heap.size + 1 + 1, 0, none⟩) 2 2, .slice none 0 0] 133))
          have hc := (((ownMade (W0.drew.alloc (.cells (madeCells #[.slice none 0 0] nb) 22)) W0.heap.size d.A.length (W0.heap.size + 1) 3 (.int .i64 0) (by simp) (by simp; try omega) (by omega)).alloc (.cells (madeCells #[.slice none 0 0] 2) 22)).alloc (.cells #[.int .i64 d.K, .int .i64 d.S, .slice An d.N.length cn, .slice Aa d.A.length ca, .slice (some ⟨W0.heap.size, 0, none⟩) nb nb, .slice (some ⟨W0.heap.size + 1, 0, none⟩) d.A.length d.A.length, .slice (some ⟨W0.heap.size + 1 + 1, 0, none⟩) 2 2, .slice none 0 0] 133))
          have hm := ((ownMade ((W0.drew.alloc (.cells (madeCells #[.slice none 0 0] nb) 22)).alloc (.cells (madeCells #[.int .i64 0] d.A.length) 3)) W0.heap.size 2 (W0.heap.size + 1 + 1) 22 (.slice none 0 0) (by simp) (by simp; try omega) (by omega)).alloc (.cells #[.int .i64 d.K, .int .i64 d.S, .slice An d.N.length cn, .slice Aa d.A.length ca, .slice (some ⟨W0.heap.size, 0, none⟩) nb nb, .slice (some ⟨W0.heap.size + 1, 0, none⟩) d.A.length d.A.length, .slice (some ⟨W0.heap.size + 1 + 1, 0, none⟩) 2 2, .slice none 0 0] 133))
          have hblk := Blk.new (((W0.drew.alloc (.cells (madeCells #[.slice none 0 0] nb) 22)).alloc (.cells (madeCells #[.int .i64 0] d.A.length) 3)).alloc (.cells (madeCells #[.slice none 0 0] 2) 22)) 133 #[.int .i64 d.K, .int .i64 d.S, .slice An d.N.length cn, .slice Aa d.A.length ca, .slice (some ⟨W0.heap.size, 0, none⟩) nb nb, .slice (some ⟨W0.heap.size + 1, 0, none⟩) d.A.length d.A.length, .slice (some ⟨W0.heap.size + 1 + 1, 0, none⟩) 2 2, .slice none 0 0]
          simp only [size_alloc_one] at hblk
          have HSW := Lib.hid (SW.start (w := W0) hb hc hm (by omega) (by omega) (by omega) hblk (bel_alloc (bel_alloc (bel_alloc (bel_alloc ((Below.refl W0.heap.size W0).drew) _) _) _) _) (by show W0.heap.size ≤ W0.heap.size + 1 + 1 + 1; omega))
          refine hK.out _ _ (⟨(World.cell?_alloc_lt _ _ ⟨w.heap.size, 0, none⟩ (by simp; omega)).trans hHeld.1, (World.cell?_alloc_lt _ _ ⟨w.heap.size, 1, none⟩ (by simp; omega)).trans hHeld.2.1, (World.cell?_alloc_lt _ _ ⟨w.heap.size, 2, none⟩ (by simp; omega)).trans hHeld.2.2.1, (World.cell?_alloc_lt _ _ ⟨w.heap.size, 3, none⟩ (by simp; omega)).trans hHeld.2.2.2⟩) (fun hHeld => ?_)
          clear hK K
          try simp only [Act.put]
          refine wpAnyH_done (by kernel_rfl) ?_ _
          clear hHeld hb hc hm hblk
          show Oper.wp _ _ _ _ _ _
          go_simp
          go_wp2_with fail
          go_meet
          case rel => exact ⟨_, _, _, _, rfl, HSW⟩
      · go_simp
        refine hK.out _ _ (⟨(World.cell?_alloc_lt _ _ ⟨w.heap.size, 0, none⟩ (by simp; omega)).trans hHeld.1, (World.cell?_alloc_lt _ _ ⟨w.heap.size, 1, none⟩ (by simp; omega)).trans hHeld.2.1, (World.cell?_alloc_lt _ _ ⟨w.heap.size, 2, none⟩ (by simp; omega)).trans hHeld.2.2.1, (World.cell?_alloc_lt _ _ ⟨w.heap.size, 3, none⟩ (by simp; omega)).trans hHeld.2.2.2⟩) (fun hHeld => ?_)
        clear hK K
        try simp only [Act.put]
        refine wpAnyH_ready (rs := [7]) (by kernel_rfl) (by simp) (AllReadyH.cons rfl (fun K hK => ?_) (AllReadyH.nil))
        · go_simp
          refine hK.out _ _ (⟨(World.cell?_alloc_lt _ _ ⟨w.heap.size, 0, none⟩ (by simp; omega)).trans hHeld.1, (World.cell?_alloc_lt _ _ ⟨w.heap.size, 1, none⟩ (by simp; omega)).trans hHeld.2.1, (World.cell?_alloc_lt _ _ ⟨w.heap.size, 2, none⟩ (by simp; omega)).trans hHeld.2.2.1, (World.cell?_alloc_lt _ _ ⟨w.heap.size, 3, none⟩ (by simp; omega)).trans hHeld.2.2.2⟩) (fun hHeld => ?_)
          clear hK K
          try simp only [Act.put]
          refine wpAnyH_take (i := 9) (v := ?_) rfl (by kernel_rfl) (by kernel_rfl) (by kernel_rfl) (fun _ _ _ h => h) (Or.inl ⟨by rfl, ?_⟩) (by assumption) ?_
          rotate_left 1
          · intro w hSw; (try dsimp only at hSw); go_simp; first | done | with_reducible rfl
          try simp only [Act.put]
          refine wpAnyH_ready (rs := [10]) (by kernel_rfl) (by simp) (AllReadyH.cons rfl (fun K hK => ?_) AllReadyH.nil)
          go_simp
          have hb := ((((ownMade W0.drew W0.heap.size nb (W0.heap.size) 22 (.slice none 0 0) (by simp) (by simp; try omega) (by omega)).alloc (.cells (madeCells #[.slice none 0 0] 2) 22)).alloc (.cells (madeCells #[.int .i64 0] d.A.length) 3)).alloc (.cells #[.int .i64 d.K, .int .i64 d.S, .slice An d.N.length cn, .slice Aa d.A.length ca, .slice (some ⟨W0.heap.size, 0, none⟩) nb nb, .slice (some ⟨W0.heap.size + 1 + 1, 0, none⟩) d.A.length d.A.length, .slice (some ⟨W0.heap.size + 1, 0, none⟩) 2 2, .slice none 0 0] 133))
          have hm := (((ownMade (W0.drew.alloc (.cells (madeCells #[.slice none 0 0] nb) 22)) W0.heap.size 2 (W0.heap.size + 1) 22 (.slice none 0 0) (by simp) (by simp; try omega) (by omega)).alloc (.cells (madeCells #[.int .i64 0] d.A.length) 3)).alloc (.cells #[.int .i64 d.K, .int .i64 d.S, .slice An d.N.length cn, .slice Aa d.A.length ca, .slice (some ⟨W0.heap.size, 0, none⟩) nb nb, .slice (some ⟨W0.heap.size + 1 + 1, 0, none⟩) d.A.length d.A.length, .slice (some ⟨W0.heap.size + 1, 0, none⟩) 2 2, .slice none 0 0] 133))
          have hc := ((ownMade ((W0.drew.alloc (.cells (madeCells #[.slice none 0 0] nb) 22)).alloc (.cells (madeCells #[.slice none 0 0] 2) 22)) W0.heap.size d.A.length (W0.heap.size + 1 + 1) 3 (.int .i64 0) (by simp) (by simp; try omega) (by omega)).alloc (.cells #[.int .i64 d.K, .int .i64 d.S, .slice An d.N.length cn, .slice Aa d.A.length ca, .slice (some ⟨W0.heap.size, 0, none⟩) nb nb, .slice (some ⟨W0.heap.size + 1 + 1, 0, none⟩) d.A.length d.A.length, .slice (some ⟨W0.heap.size + 1, 0, none⟩) 2 2, .slice none 0 0] 133))
          have hblk := Blk.new (((W0.drew.alloc (.cells (madeCells #[.slice none 0 0] nb) 22)).alloc (.cells (madeCells #[.slice none 0 0] 2) 22)).alloc (.cells (madeCells #[.int .i64 0] d.A.length) 3)) 133 #[.int .i64 d.K, .int .i64 d.S, .slice An d.N.length cn, .slice Aa d.A.length ca, .slice (some ⟨W0.heap.size, 0, none⟩) nb nb, .slice (some ⟨W0.heap.size + 1 + 1, 0, none⟩) d.A.length d.A.length, .slice (some ⟨W0.heap.size + 1, 0, none⟩) 2 2, .slice none 0 0]
          simp only [size_alloc_one] at hblk
          have HSW := Lib.hid (SW.start (w := W0) hb hc hm (by omega) (by omega) (by omega) hblk (bel_alloc (bel_alloc (bel_alloc (bel_alloc ((Below.refl W0.heap.size W0).drew) _) _) _) _) (by show W0.heap.size ≤ W0.heap.size + 1 + 1 + 1; omega))
          refine hK.out _ _ (⟨(World.cell?_alloc_lt _ _ ⟨w.heap.size, 0, none⟩ (by simp; omega)).trans hHeld.1, (World.cell?_alloc_lt _ _ ⟨w.heap.size, 1, none⟩ (by simp; omega)).trans hHeld.2.1, (World.cell?_alloc_lt _ _ ⟨w.heap.size, 2, none⟩ (by simp; omega)).trans hHeld.2.2.1, (World.cell?_alloc_lt _ _ ⟨w.heap.size, 3, none⟩ (by simp; omega)).trans hHeld.2.2.2⟩) (fun hHeld => ?_)
          clear hK K
          try simp only [Act.put]
          refine wpAnyH_done (by kernel_rfl) ?_ _
          clear hHeld hb hc hm hblk
          show Oper.wp _ _ _ _ _ _
          go_simp
          go_wp2_with fail
          go_meet
          case rel => exact ⟨_, _, _, _, rfl, HSW⟩
    · go_simp
      refine hK.out _ _ (⟨(World.cell?_alloc_lt _ _ ⟨w.heap.size, 0, none⟩ (by simp; omega)).trans hHeld.1, (World.cell?_alloc_lt _ _ ⟨w.heap.size, 1, none⟩ (by simp; omega)).trans hHeld.2.1, (World.cell?_alloc_lt _ _ ⟨w.heap.size, 2, none⟩ (by simp; omega)).trans hHeld.2.2.1, (World.cell?_alloc_lt _ _ ⟨w.heap.size, 3, none⟩ (by simp; omega)).trans hHeld.2.2.2⟩) (fun hHeld => ?_)
      clear hK K
      try simp only [Act.put]
      refine wpAnyH_ready (rs := [5, 8]) (by kernel_rfl) (by simp) (AllReadyH.cons rfl (fun K hK => ?_) (AllReadyH.cons rfl (fun K hK => ?_) (AllReadyH.nil)))
      · go_simp
        refine hK.out _ _ (⟨(World.cell?_alloc_lt _ _ ⟨w.heap.size, 0, none⟩ (by simp; omega)).trans hHeld.1, (World.cell?_alloc_lt _ _ ⟨w.heap.size, 1, none⟩ (by simp; omega)).trans hHeld.2.1, (World.cell?_alloc_lt _ _ ⟨w.heap.size, 2, none⟩ (by simp; omega)).trans hHeld.2.2.1, (World.cell?_alloc_lt _ _ ⟨w.heap.size, 3, none⟩ (by simp; omega)).trans hHeld.2.2.2⟩) (fun hHeld => ?_)
        clear hK K
        try simp only [Act.put]
        refine wpAnyH_ready (rs := [8]) (by kernel_rfl) (by simp) (AllReadyH.cons rfl (fun K hK => ?_) (AllReadyH.nil))
        · go_simp
          refine hK.out _ _ (⟨(World.cell?_alloc_lt _ _ ⟨w.heap.size, 0, none⟩ (by simp; omega)).trans hHeld.1, (World.cell?_alloc_lt _ _ ⟨w.heap.size, 1, none⟩ (by simp; omega)).trans hHeld.2.1, (World.cell?_alloc_lt _ _ ⟨w.heap.size, 2, none⟩ (by simp; omega)).trans hHeld.2.2.1, (World.cell?_alloc_lt _ _ ⟨w.heap.size, 3, none⟩ (by simp; omega)).trans hHeld.2.2.2⟩) (fun hHeld => ?_)
          clear hK K
          try simp only [Act.put]
          refine wpAnyH_take (i := 9) (v := ?_) rfl (by kernel_rfl) (by kernel_rfl) (by kernel_rfl) (fun _ _ _ h => h) (Or.inl ⟨by rfl, ?_⟩) (by assumption) ?_
          rotate_left 1
          · intro w hSw; (try dsimp only at hSw); go_simp; first | done | with_reducible rfl
          try simp only [Act.put]
          refine wpAnyH_ready (rs := [10]) (by kernel_rfl) (by simp) (AllReadyH.cons rfl (fun K hK => ?_) AllReadyH.nil)
          go_simp
          have hc := ((((ownMade W0.drew W0.heap.size d.A.length (W0.heap.size) 3 (.int .i64 0) (by simp) (by simp; try omega) (by omega)).alloc (.cells (madeCells #[.slice none 0 0] nb) 22)).alloc (.cells (madeCells #[.slice none 0 0] 2) 22)).alloc (.cells #[.int .i64 d.K, .int .i64 d.S, .slice An d.N.length cn, .slice Aa d.A.length ca, .slice (some ⟨W0.heap.size + 1, 0, none⟩) nb nb, .slice (some ⟨W0.heap.size, 0, none⟩) d.A.length d.A.length, .slice (some ⟨W0.heap.size + 1 + 1, 0, none⟩) 2 2, .slice none 0 0] 133))
          have hb := (((ownMade (W0.drew.alloc (.cells (madeCells #[.int .i64 0] d.A.length) 3)) W0.heap.size nb (W0.heap.size + 1) 22 (.slice none 0 0) (by simp) (by simp; try omega) (by omega)).alloc (.cells (madeCells #[.slice none 0 0] 2) 22)).alloc (.cells #[.int .i64 d.K, .int .i64 d.S, .slice An d.N.length cn, .slice Aa d.A.length ca, .slice (some ⟨W0.heap.size + 1, 0, none⟩) nb nb, .slice (some ⟨W0.heap.size, 0, none⟩) d.A.length d.A.length, .slice (some ⟨W0.heap.size + 1 + 1, 0, none⟩) 2 2, .slice none 0 0] 133))
          have hm := ((ownMade ((W0.drew.alloc (.cells (madeCells #[.int .i64 0] d.A.length) 3)).alloc (.cells (madeCells #[.slice none 0 0] nb) 22)) W0.heap.size 2 (W0.heap.size + 1 + 1) 22 (.slice none 0 0) (by simp) (by simp; try omega) (by omega)).alloc (.cells #[.int .i64 d.K, .int .i64 d.S, .slice An d.N.length cn, .slice Aa d.A.length ca, .slice (some ⟨W0.heap.size + 1, 0, none⟩) nb nb, .slice (some ⟨W0.heap.size, 0, none⟩) d.A.length d.A.length, .slice (some ⟨W0.heap.size + 1 + 1, 0, none⟩) 2 2, .slice none 0 0] 133))
          have hblk := Blk.new (((W0.drew.alloc (.cells (madeCells #[.int .i64 0] d.A.length) 3)).alloc (.cells (madeCells #[.slice none 0 0] nb) 22)).alloc (.cells (madeCells #[.slice none 0 0] 2) 22)) 133 #[.int .i64 d.K, .int .i64 d.S, .slice An d.N.length cn, .slice Aa d.A.length ca, .slice (some ⟨W0.heap.size + 1, 0, none⟩) nb nb, .slice (some ⟨W0.heap.size, 0, none⟩) d.A.length d.A.length, .slice (some ⟨W0.heap.size + 1 + 1, 0, none⟩) 2 2, .slice none 0 0]
          simp only [size_alloc_one] at hblk
          have HSW := Lib.hid (SW.start (w := W0) hb hc hm (by omega) (by omega) (by omega) hblk (bel_alloc (bel_alloc (bel_alloc (bel_alloc ((Below.refl W0.heap.size W0).drew) _) _) _) _) (by show W0.heap.size ≤ W0.heap.size + 1 + 1 + 1; omega))
          refine hK.out _ _ (⟨(World.cell?_alloc_lt _ _ ⟨w.heap.size, 0, none⟩ (by simp; omega)).trans hHeld.1, (World.cell?_alloc_lt _ _ ⟨w.heap.size, 1, none⟩ (by simp; omega)).trans hHeld.2.1, (World.cell?_alloc_lt _ _ ⟨w.heap.size, 2, none⟩ (by simp; omega)).trans hHeld.2.2.1, (World.cell?_alloc_lt _ _ ⟨w.heap.size, 3, none⟩ (by simp; omega)).trans hHeld.2.2.2⟩) (fun hHeld => ?_)
          clear hK K
          try simp only [Act.put]
          refine wpAnyH_done (by kernel_rfl) ?_ _
          clear hHeld hb hc hm hblk
          show Oper.wp _ _ _ _ _ _
          go_simp
          go_wp2_with fail
          go_meet
          case rel => exact ⟨_, _, _, _, rfl, HSW⟩
      · go_simp
        refine hK.out _ _ (⟨(World.cell?_alloc_lt _ _ ⟨w.heap.size, 0, none⟩ (by simp; omega)).trans hHeld.1, (World.cell?_alloc_lt _ _ ⟨w.heap.size, 1, none⟩ (by simp; omega)).trans hHeld.2.1, (World.cell?_alloc_lt _ _ ⟨w.heap.size, 2, none⟩ (by simp; omega)).trans hHeld.2.2.1, (World.cell?_alloc_lt _ _ ⟨w.heap.size, 3, none⟩ (by simp; omega)).trans hHeld.2.2.2⟩) (fun hHeld => ?_)
        clear hK K
        try simp only [Act.put]
        refine wpAnyH_ready (rs := [5]) (by kernel_rfl) (by simp) (AllReadyH.cons rfl (fun K hK => ?_) (AllReadyH.nil))
        · go_simp
          refine hK.out _ _ (⟨(World.cell?_alloc_lt _ _ ⟨w.heap.size, 0, none⟩ (by simp; omega)).trans hHeld.1, (World.cell?_alloc_lt _ _ ⟨w.heap.size, 1, none⟩ (by simp; omega)).trans hHeld.2.1, (World.cell?_alloc_lt _ _ ⟨w.heap.size, 2, none⟩ (by simp; omega)).trans hHeld.2.2.1, (World.cell?_alloc_lt _ _ ⟨w.heap.size, 3, none⟩ (by simp; omega)).trans hHeld.2.2.2⟩) (fun hHeld => ?_)
          clear hK K
          try simp only [Act.put]
          refine wpAnyH_take (i := 9) (v := ?_) rfl (by kernel_rfl) (by kernel_rfl) (by kernel_rfl) (fun _ _ _ h => h) (Or.inl ⟨by rfl, ?_⟩) (by assumption) ?_
          rotate_left 1
          · intro w hSw; (try dsimp only at hSw); go_simp; first | done | with_reducible rfl
          try simp only [Act.put]
          refine wpAnyH_ready (rs := [10]) (by kernel_rfl) (by simp) (AllReadyH.cons rfl (fun K hK => ?_) AllReadyH.nil)
          go_simp
          have hc := ((((ownMade W0.drew W0.heap.size d.A.length (W0.heap.size) 3 (.int .i64 0) (by simp) (by simp; try omega) (by omega)).alloc (.cells (madeCells #[.slice none 0 0] 2) 22)).alloc (.cells (madeCells #[.slice none 0 0] nb) 22)).alloc (.cells #[.int .i64 d.K, .int .i64 d.S, .slice An d.N.length cn, .slice Aa d.A.length ca, .slice (some ⟨W0.heap.size + 1 + 1, 0, none⟩) nb nb, .slice (some ⟨W0.heap.size, 0, none⟩) d.A.length d.A.length, .slice (some ⟨W0.heap.size + 1, 0, none⟩) 2 2, .slice none 0 0] 133))
          have hm := (((ownMade (W0.drew.alloc (.cells (madeCells #[.int .i64 0] d.A.length) 3)) W0.heap.size 2 (W0.heap.size + 1) 22 (.slice none 0 0) (by simp) (by simp; try omega) (by omega)).alloc (.cells (madeCells #[.slice none 0 0] nb) 22)).alloc (.cells #[.int .i64 d.K, .int .i64 d.S, .slice An d.N.length cn, .slice Aa d.A.length ca, .slice (some ⟨W0.heap.size + 1 + 1, 0, none⟩) nb nb, .slice (some ⟨W0.heap.size, 0, none⟩) d.A.length d.A.length, .slice (some ⟨W0.heap.size + 1, 0, none⟩) 2 2, .slice none 0 0] 133))
          have hb := ((ownMade ((W0.drew.alloc (.cells (madeCells #[.int .i64 0] d.A.length) 3)).alloc (.cells (madeCells #[.slice none 0 0] 2) 22)) W0.heap.size nb (W0.heap.size + 1 + 1) 22 (.slice none 0 0) (by simp) (by simp; try omega) (by omega)).alloc (.cells #[.int .i64 d.K, .int .i64 d.S, .slice An d.N.length cn, .slice Aa d.A.length ca, .slice (some ⟨W0.heap.size + 1 + 1, 0, none⟩) nb nb, .slice (some ⟨W0.heap.size, 0, none⟩) d.A.length d.A.length, .slice (some ⟨W0.heap.size + 1, 0, none⟩) 2 2, .slice none 0 0] 133))
          have hblk := Blk.new (((W0.drew.alloc (.cells (madeCells #[.int .i64 0] d.A.length) 3)).alloc (.cells (madeCells #[.slice none 0 0] 2) 22)).alloc (.cells (madeCells #[.slice none 0 0] nb) 22)) 133 #[.int .i64 d.K, .int .i64 d.S, .slice An d.N.length cn, .slice Aa d.A.length ca, .slice (some ⟨W0.heap.size + 1 + 1, 0, none⟩) nb nb, .slice (some ⟨W0.heap.size, 0, none⟩) d.A.length d.A.length, .slice (some ⟨W0.heap.size + 1, 0, none⟩) 2 2, .slice none 0 0]
          simp only [size_alloc_one] at hblk
          have HSW := Lib.hid (SW.start (w := W0) hb hc hm (by omega) (by omega) (by omega) hblk (bel_alloc (bel_alloc (bel_alloc (bel_alloc ((Below.refl W0.heap.size W0).drew) _) _) _) _) (by show W0.heap.size ≤ W0.heap.size + 1 + 1 + 1; omega))
          refine hK.out _ _ (⟨(World.cell?_alloc_lt _ _ ⟨w.heap.size, 0, none⟩ (by simp; omega)).trans hHeld.1, (World.cell?_alloc_lt _ _ ⟨w.heap.size, 1, none⟩ (by simp; omega)).trans hHeld.2.1, (World.cell?_alloc_lt _ _ ⟨w.heap.size, 2, none⟩ (by simp; omega)).trans hHeld.2.2.1, (World.cell?_alloc_lt _ _ ⟨w.heap.size, 3, none⟩ (by simp; omega)).trans hHeld.2.2.2⟩) (fun hHeld => ?_)
          clear hK K
          try simp only [Act.put]
          refine wpAnyH_done (by kernel_rfl) ?_ _
          clear hHeld hb hc hm hblk
          show Oper.wp _ _ _ _ _ _
          go_simp
          go_wp2_with fail
          go_meet
          case rel => exact ⟨_, _, _, _, rfl, HSW⟩
    · go_simp
      refine hK.out _ _ (⟨(World.cell?_alloc_lt _ _ ⟨w.heap.size, 0, none⟩ (by simp; omega)).trans hHeld.1, (World.cell?_alloc_lt _ _ ⟨w.heap.size, 1, none⟩ (by simp; omega)).trans hHeld.2.1, (World.cell?_alloc_lt _ _ ⟨w.heap.size, 2, none⟩ (by simp; omega)).trans hHeld.2.2.1, (World.cell?_alloc_lt _ _ ⟨w.heap.size, 3, none⟩ (by simp; omega)).trans hHeld.2.2.2⟩) (fun hHeld => ?_)
      clear hK K
      try simp only [Act.put]
      refine wpAnyH_ready (rs := [5, 7]) (by kernel_rfl) (by simp) (AllReadyH.cons rfl (fun K hK => ?_) (AllReadyH.cons rfl (fun K hK => ?_) (AllReadyH.nil)))
      · go_simp
        refine hK.out _ _ (⟨(World.cell?_alloc_lt _ _ ⟨w.heap.size, 0, none⟩ (by simp; omega)).trans hHeld.1, (World.cell?_alloc_lt _ _ ⟨w.heap.size, 1, none⟩ (by simp; omega)).trans hHeld.2.1, (World.cell?_alloc_lt _ _ ⟨w.heap.size, 2, none⟩ (by simp; omega)).trans hHeld.2.2.1, (World.cell?_alloc_lt _ _ ⟨w.heap.size, 3, none⟩ (by simp; omega)).trans hHeld.2.2.2⟩) (fun hHeld => ?_)
        clear hK K
        try simp only [Act.put]
        refine wpAnyH_ready (rs := [7]) (by kernel_rfl) (by simp) (AllReadyH.cons rfl (fun K hK => ?_) (AllReadyH.nil))
        · go_simp
          refine hK.out _ _ (⟨(World.cell?_alloc_lt _ _ ⟨w.heap.size, 0, none⟩ (by simp; omega)).trans hHeld.1, (World.cell?_alloc_lt _ _ ⟨w.heap.size, 1, none⟩ (by simp; omega)).trans hHeld.2.1, (World.cell?_alloc_lt _ _ ⟨w.heap.size, 2, none⟩ (by simp; omega)).trans hHeld.2.2.1, (World.cell?_alloc_lt _ _ ⟨w.heap.size, 3, none⟩ (by simp; omega)).trans hHeld.2.2.2⟩) (fun hHeld => ?_)
          clear hK K
          try simp only [Act.put]
          refine wpAnyH_take (i := 9) (v := ?_) rfl (by kernel_rfl) (by kernel_rfl) (by kernel_rfl) (fun _ _ _ h => h) (Or.inl ⟨by rfl, ?_⟩) (by assumption) ?_
          rotate_left 1
          · intro w hSw; (try dsimp only at hSw); go_simp; first | done | with_reducible rfl
          try simp only [Act.put]
          refine wpAnyH_ready (rs := [10]) (by kernel_rfl) (by simp) (AllReadyH.cons rfl (fun K hK => ?_) AllReadyH.nil)
          go_simp
          have hm := ((((ownMade W0.drew W0.heap.size 2 (W0.heap.size) 22 (.slice none 0 0) (by simp) (by simp; try omega) (by omega)).alloc (.cells (madeCells #[.slice none 0 0] nb) 22)).alloc (.cells (madeCells #[.int .i64 0] d.A.length) 3)).alloc (.cells #[.int .i64 d.K, .int .i64 d.S, .slice An d.N.length cn, .slice Aa d.A.length ca, .slice (some ⟨W0.heap.size + 1, 0, none⟩) nb nb, .slice (some ⟨W0.heap.size + 1 + 1, 0, none⟩) d.A.length d.A.length, .slice (some ⟨W0.heap.size, 0, none⟩) 2 2, .slice none 0 0] 133))
          have hb := (((ownMade (W0.drew.alloc (.cells (madeCells #[.slice none 0 0] 2) 22)) W0.heap.size nb (W0.heap.size + 1) 22 (.slice none 0 0) (by simp) (by simp; try omega) (by omega)).alloc (.cells (madeCells #[.int .i64 0] d.A.length) 3)).alloc (.cells #[.int .i64 d.K, .int .i64 d.S, .slice An d.N.length cn, .slice Aa d.A.length ca, .slice (some ⟨W0.heap.size + 1, 0, none⟩) nb nb, .slice (some ⟨W0.heap.size + 1 + 1, 0, none⟩) d.A.length d.A.length, .slice (some ⟨W0.heap.size, 0, none⟩) 2 2, .slice none 0 0] 133))
          have hc := ((ownMade ((W0.drew.alloc (.cells (madeCells #[.slice none 0 0] 2) 22)).alloc (.cells (madeCells #[.slice none 0 0] nb) 22)) W0.heap.size d.A.length (W0.heap.size + 1 + 1) 3 (.int .i64 0) (by simp) (by simp; try omega) (by omega)).alloc (.cells #[.int .i64 d.K, .int .i64 d.S, .slice An d.N.length cn, .slice Aa d.A.length ca, .slice (some ⟨W0.heap.size + 1, 0, none⟩) nb nb, .slice (some ⟨W0.heap.size + 1 + 1, 0, none⟩) d.A.length d.A.length, .slice (some ⟨W0.heap.size, 0, none⟩) 2 2, .slice none 0 0] 133))
          have hblk := Blk.new (((W0.drew.alloc (.cells (madeCells #[.slice none 0 0] 2) 22)).alloc (.cells (madeCells #[.slice none 0 0] nb) 22)).alloc (.cells (madeCells #[.int .i64 0] d.A.length) 3)) 133 #[.int .i64 d.K, .int .i64 d.S, .slice An d.N.length cn, .slice Aa d.A.length ca, .slice (some ⟨W0.heap.size + 1, 0, none⟩) nb nb, .slice (some ⟨W0.heap.size + 1 + 1, 0, none⟩) d.A.length d.A.length, .slice (some ⟨W0.heap.size, 0, none⟩) 2 2, .slice none 0 0]
          simp only [size_alloc_one] at hblk
          have HSW := Lib.hid (SW.start (w := W0) hb hc hm (by omega) (by omega) (by omega) hblk (bel_alloc (bel_alloc (bel_alloc (bel_alloc ((Below.refl W0.heap.size W0).drew) _) _) _) _) (by show W0.heap.size ≤ W0.heap.size + 1 + 1 + 1; omega))
          refine hK.out _ _ (⟨(World.cell?_alloc_lt _ _ ⟨w.heap.size, 0, none⟩ (by simp; omega)).trans hHeld.1, (World.cell?_alloc_lt _ _ ⟨w.heap.size, 1, none⟩ (by simp; omega)).trans hHeld.2.1, (World.cell?_alloc_lt _ _ ⟨w.heap.size, 2, none⟩ (by simp; omega)).trans hHeld.2.2.1, (World.cell?_alloc_lt _ _ ⟨w.heap.size, 3, none⟩ (by simp; omega)).trans hHeld.2.2.2⟩) (fun hHeld => ?_)
          clear hK K
          try simp only [Act.put]
          refine wpAnyH_done (by kernel_rfl) ?_ _
          clear hHeld hb hc hm hblk
          show Oper.wp _ _ _ _ _ _
          go_simp
          go_wp2_with fail
          go_meet
          case rel => exact ⟨_, _, _, _, rfl, HSW⟩
      · go_simp
        refine hK.out _ _ (⟨(World.cell?_alloc_lt _ _ ⟨w.heap.size, 0, none⟩ (by simp; omega)).trans hHeld.1, (World.cell?_alloc_lt _ _ ⟨w.heap.size, 1, none⟩ (by simp; omega)).trans hHeld.2.1, (World.cell?_alloc_lt _ _ ⟨w.heap.size, 2, none⟩ (by simp; omega)).trans hHeld.2.2.1, (World.cell?_alloc_lt _ _ ⟨w.heap.size, 3, none⟩ (by simp; omega)).trans hHeld.2.2.2⟩) (fun hHeld => ?_)
        clear hK K
        try simp only [Act.put]
        refine wpAnyH_ready (rs := [5]) (by kernel_rfl) (by simp) (AllReadyH.cons rfl (fun K hK => ?_) (AllReadyH.nil))
        · go_simp
          refine hK.out _ _ (⟨(World.cell?_alloc_lt _ _ ⟨w.heap.size, 0, none⟩ (by simp; omega)).trans hHeld.1, (World.cell?_alloc_lt _ _ ⟨w.heap.size, 1, none⟩ (by simp; omega)).trans hHeld.2.1, (World.cell?_alloc_lt _ _ ⟨w.heap.size, 2, none⟩ (by simp; omega)).trans hHeld.2.2.1, (World.cell?_alloc_lt _ _ ⟨w.heap.size, 3, none⟩ (by simp; omega)).trans hHeld.2.2.2⟩) (fun hHeld => ?_)
          clear hK K
          try simp only [Act.put]
          refine wpAnyH_take (i := 9) (v := ?_) rfl (by kernel_rfl) (by kernel_rfl) (by kernel_rfl) (fun _ _ _ h => h) (Or.inl ⟨by rfl, ?_⟩) (by assumption) ?_
          rotate_left 1
          · intro w hSw; (try dsimp only at hSw); go_simp; first | done | with_reducible rfl
          try simp only [Act.put]
          refine wpAnyH_ready (rs := [10]) (by kernel_rfl) (by simp) (AllReadyH.cons rfl (fun K hK => ?_) AllReadyH.nil)
          go_simp
          have hm := ((((ownMade W0.drew W0.heap.size 2 (W0.heap.size) 22 (.slice none 0 0) (by simp) (by simp; try omega) (by omega)).alloc (.cells (madeCells #[.int .i64 0] d.A.length) 3)).alloc (.cells (madeCells #[.slice none 0 0] nb) 22)).alloc (.cells #[.int .i64 d.K, .int .i64 d.S, .slice An d.N.length cn, .slice Aa d.A.length ca, .slice (some ⟨W0.heap.size + 1 + 1, 0, none⟩) nb nb, .slice (some ⟨W0.heap.size + 1, 0, none⟩) d.A.length d.A.length, .slice (some ⟨W0.heap.size, 0, none⟩) 2 2, .slice none 0 0] 133))
          have hc := (((ownMade (W0.drew.alloc (.cells (madeCells #[.slice none 0 0] 2) 22)) W0.heap.size d.A.length (W0.heap.size + 1) 3 (.int .i64 0) (by simp) (by simp; try omega) (by omega)).alloc (.cells (madeCells #[.slice none 0 0] nb) 22)).alloc (.cells #[.int .i64 d.K, .int .i64 d.S, .slice An d.N.length cn, .slice Aa d.A.length ca, .slice (some ⟨W0.heap.size + 1 + 1, 0, none⟩) nb nb, .slice (some ⟨W0.heap.size + 1, 0, none⟩) d.A.length d.A.length, .slice (some ⟨W0.heap.size, 0, none⟩) 2 2, .slice none 0 0] 133))
          have hb := ((ownMade ((W0.drew.alloc (.cells (madeCells #[.slice none 0 0] 2) 22)).alloc (.cells (madeCells #[.int .i64 0] d.A.length) 3)) W0.heap.size nb (W0.heap.size + 1 + 1) 22 (.slice none 0 0) (by simp) (by simp; try omega) (by omega)).alloc (.cells #[.int .i64 d.K, .int .i64 d.S, .slice An d.N.length cn, .slice Aa d.A.length ca, .slice (some ⟨W0.heap.size + 1 + 1, 0, none⟩) nb nb, .slice (some ⟨W0.heap.size + 1, 0, none⟩) d.A.length d.A.length, .slice (some ⟨W0.heap.size, 0, none⟩) 2 2, .slice none 0 0] 133))
          have hblk := Blk.new (((W0.drew.alloc (.cells (madeCells #[.slice none 0 0] 2) 22)).alloc (.cells (madeCells #[.int .i64 0] d.A.length) 3)).alloc (.cells (madeCells #[.slice none 0 0] nb) 22)) 133 #[.int .i64 d.K, .int .i64 d.S, .slice An d.N.length cn, .slice Aa d.A.length ca, .slice (some ⟨W0.heap.size + 1 + 1, 0, none⟩) nb nb, .slice (some ⟨W0.heap.size + 1, 0, none⟩) d.A.length d.A.length, .slice (some ⟨W0.heap.size, 0, none⟩) 2 2, .slice none 0 0]
          simp only [size_alloc_one] at hblk
          have HSW := Lib.hid (SW.start (w := W0) hb hc hm (by omega) (by omega) (by omega) hblk (bel_alloc (bel_alloc (bel_alloc (bel_alloc ((Below.refl W0.heap.size W0).drew) _) _) _) _) (by show W0.heap.size ≤ W0.heap.size + 1 + 1 + 1; omega))
          refine hK.out _ _ (⟨(World.cell?_alloc_lt _ _ ⟨w.heap.size, 0, none⟩ (by simp; omega)).trans hHeld.1, (World.cell?_alloc_lt _ _ ⟨w.heap.size, 1, none⟩ (by simp; omega)).trans hHeld.2.1, (World.cell?_alloc_lt _ _ ⟨w.heap.size, 2, none⟩ (by simp; omega)).trans hHeld.2.2.1, (World.cell?_alloc_lt _ _ ⟨w.heap.size, 3, none⟩ (by simp; omega)).trans hHeld.2.2.2⟩) (fun hHeld => ?_)
          clear hK K
          try simp only [Act.put]
          refine wpAnyH_done (by kernel_rfl) ?_ _
          clear hHeld hb hc hm hblk
          show Oper.wp _ _ _ _ _ _
          go_simp
          go_wp2_with fail
          go_meet
          case rel => exact ⟨_, _, _, _, rfl, HSW⟩
  case rest =>
    obtain ⟨gs, gb, gc, gm, rfl, HSW0⟩ := hcut
    have HP0 : Hid (PW W0 wc d An cn Aa ca gs 0 0 0 (startS gb gc gm nb d.A.length)) := ⟨HSW0.out, by show BackIn d 0 0 (List.replicate nb (Value.slice none 0 0, [])); rw [HNB.out]; exact BackIn.init _, (accCls_zero d).symm, rfl, rfl, rfl, rfl⟩
    generalize startS gb gc gm nb d.A.length = s0 at HP0
    clear HSW0 hmkb hmkm hmkc hnbI hvnb a0 a1 a2 a3 hlt hW0
    go_wp2_with fail
    go_loopw [5, 6, 7, 23, 28] (fun _ _ _ iI _ wr => ∃ (f : Nat) (s : SS), iI = .int .i64 f ∧ f ≤ d.A.length ∧ Hid (PW W0 wr d An cn Aa ca gs f f 0 s)) (fun _ _ _ iI _ _ => d.A.length - (intOf iI).toNat)
    case atStart => exact ⟨0, s0, rfl, Nat.zero_le _, HP0⟩
    case round =>
      clear HP0
      obtain ⟨f, s, rfl, hf, HP⟩ := hrel
      obtain ⟨⟨a0, a1, a2, a3⟩, _⟩ := blk4 (HBXW.out _ _ _ HP.out.sw)
      have hbl := (HBXW.out _ _ _ HP.out.sw).lt
      obtain ⟨⟨s0, s4, s5, s6, s7⟩, hsl⟩ := HP.out.sw.cells
      by_cases hfl : f < d.A.length
      · go_wp2_with fail
        clear a0 a1 a2 a3 hbl s0 s4 s5 s6 s7 hsl
        go_loopw [6, 7, 28] (fun _ _ xI wi => ∃ (x : Nat) (s : SS), xI = .int .i64 x ∧ (x : Int) ≤ d.K ∧ Hid (PW W0 wi d An cn Aa ca gs f f x s)) (fun _ _ xI _ => (d.K - intOf xI).toNat)
        case atStart => exact ⟨0, s, rfl, by omega, HP⟩
        case round =>
          clear HP
          obtain ⟨x, s, rfl, hxK, HP⟩ := hrel
          obtain ⟨⟨a0, a1, a2, a3⟩, _⟩ := blk4 (HBXW.out _ _ _ HP.out.sw)
          have hbl := (HBXW.out _ _ _ HP.out.sw).lt
          obtain ⟨⟨s0, s4, s5, s6, s7⟩, hsl⟩ := HP.out.sw.cells
          by_cases hxl : (x : Int) < d.K
          · have hfr : inR d (f : Int) := ⟨by omega, by omega⟩
            have hmb := HOK.out.mul_bd (s := (f : Int)) hfr
            have hix := HOK.out.idx (s := (f : Int)) (x := (x : Int)) hfr ⟨by omega, hxl⟩
            have HBL := (Below.mono HP.out.sw.bel (Nat.le_refl _))
            obtain ⟨gn, on, q, hAn, hgn, hcq, hq⟩ := (HDA.out.rn.below HBL).int_ix hix.1 hix.2
            have hqr := HOK.out.step_lt (s := (f : Int)) (x := (x : Int)) hfr ⟨by omega, hxl⟩
            have hst : d.step (f : Int) (x : Int) = q := hq
            obtain ⟨v, hv, hadd⟩ := HP.out.back.add HOK.out hfl hxl
            rw [hst] at hqr hv hadd
            have hqb := HOK.out.mul_bd (s := q) hqr
            have hqx := HOK.out.idx (s := q) (x := (x : Int)) hqr ⟨by omega, hxl⟩
            obtain ⟨pos, hpos⟩ : ∃ pos : Nat, (pos : Int) = q * d.K + (x : Int) := ⟨(q * d.K + (x : Int)).toNat, Int.toNat_of_nonneg hqx.1⟩
            rw [← hpos, Int.toNat_natCast] at hv hadd
            obtain ⟨l, hl⟩ : ∃ l, l = backN d f q (x : Int) := ⟨_, rfl⟩
            rw [← hl] at hv hadd
            have hll : l.length ≤ 65536 := by rw [hl]; exact Nat.le_trans (backN_len _ _ _ _) (by omega)
            have HADD := Lib.hid hadd
            have hfb : s.fam (.bk pos) = some ⟨3, v, l.map (Value.int .i64)⟩ := by simp [SS.fam, hv, rI]
            obtain ⟨A, c, rfl⟩ := HP.out.sw.fam.form hfb
            rw [List.length_map] at hv hfb
            have hfo : s.fam .ob = some ⟨22, s.vb, s.B.map Prod.fst⟩ := rfl
            obtain ⟨go, co, hvb, t1, t2, _, tl⟩ := HP.out.sw.fam.cell hfo (j := pos) (x := .slice A l.length c) (by rw [List.getElem?_map, hv]; rfl)
            rw [List.length_map] at hvb
            have hposl : pos < s.B.length := (List.getElem?_eq_some_iff.1 hv).1
            rw [hvb] at s4
            have HV := Lib.hid hv; have HVB := Lib.hid hvb; have HFB := Lib.hid hfb
            have HFO : Hid (s.fam .ob = some ⟨22, .slice (some ⟨go, 0, none⟩) s.B.length co, s.B.map Prod.fst⟩) := by show _ = _; rw [← hvb]; rfl
            subst hAn
            obtain ⟨hm1, hm2⟩ := hmb
            obtain ⟨hi1, hi2⟩ := hix
            obtain ⟨hn1, hn2⟩ := hqb
            have v1 : IntKind.i64.wrap ((f : Int) * d.K) = (f : Int) * d.K := by rw [IntKind.wrap_i64]; omega
            have v2 : IntKind.i64.wrap ((f : Int) * d.K + x) = (f : Int) * d.K + x := by rw [IntKind.wrap_i64]; omega
            have v3 : IntKind.i64.wrap (q * d.K) = q * d.K := by rw [IntKind.wrap_i64]; omega
            have v4 : IntKind.i64.wrap (q * d.K + x) = (pos : Nat) := by rw [IntKind.wrap_i64]; omega
            have hlgn : gn < wr.heap.size := Nat.lt_of_lt_of_le hgn HP.out.sw.bel.size
            have HL3 : Hid (wr.ownsRow W0.heap.size 3 1 (.slice A l.length c) l.length (l.map (Value.int .i64))) := by
              have h := HP.out.sw.fam.own _ _ HFB.out
              simp only [List.length_map] at h
              exact h
            clear hq hst hv hadd hl hfb hfo hvb hqr hfr hpos hqx HBL
            go_wp2_with fail
            go_quiet (fail)
            have HPq : Hid (PW W0 (wr.drewN nq) d (some ⟨gn, on, none⟩) cn Aa ca gs f f x s) := ⟨HP.out.sw.drewN nq, HP.out.back, HP.out.cls, HP.out.mem, HP.out.todo, HP.out.vt, HP.out.hits⟩
            have HLq : Hid ((wr.drewN nq).ownsRow W0.heap.size 3 1 (.slice A l.length c) l.length (l.map (Value.int .i64))) := HL3.out
            have q4 : (wr.drewN nq).cell? ⟨gs, 4, none⟩ = some (.slice (some ⟨go, 0, none⟩) s.B.length co) := s4
            have qb : (wr.drewN nq).cell? ⟨go, pos, none⟩ = some (.slice A l.length c) := t1
            have qsl : gs < (wr.drewN nq).heap.size := hsl
            have qgl : go < (wr.drewN nq).heap.size := tl
            clear HP HL3 a0 a1 a2 a3 hbl s0 s4 s5 s6 s7 hsl t1 t2 tl hcq hlgn hgn v1 v2 v3 v4
            generalize wr.drewN nq = wq at HPq HLq q4 qb qsl qgl ⊢
            go_upto_region 10 with fail
            refine wp_region_peelF (S := fun w' => w'.cell? ⟨gs, 4, none⟩ = some (.slice (some ⟨go, 0, none⟩) s.B.length co) ∧ w'.cell? ⟨go, pos, none⟩ = some (.slice A l.length c)) (List.cons_ne_nil _ _) (by kernel_rfl) (by kernel_rfl) (⟨q4, qb⟩) (fun hHeld => ?_)
            simp only [List.dropLast_cons_cons, List.dropLast_singleton, List.length_cons, List.length_nil, Nat.zero_add, Nat.reduceAdd]
            refine wpAnyH_take (i := 0) (v := ?_) rfl (by kernel_rfl) (by kernel_rfl) (by kernel_rfl) (fun _ _ _ h => h) (Or.inl ⟨by rfl, ?_⟩) (by assumption) ?_
            rotate_left 1
            · intro w hSw; (try dsimp only at hSw); go_simp; first | done | with_reducible rfl
            try simp only [Act.put]
            refine wpAnyH_take (i := 1) (v := ?_) rfl (by kernel_rfl) (by kernel_rfl) (by kernel_rfl) (fun _ _ _ h => h) (Or.inl ⟨by rfl, ?_⟩) (by assumption) ?_
            rotate_left 1
            · intro w hSw; (try dsimp only at hSw); go_simp; first | done | with_reducible rfl
            try simp only [Act.put]
            refine wpAnyH_take (i := 2) (v := ?_) rfl (by kernel_rfl) (by kernel_rfl) (by kernel_rfl) (fun _ _ _ h => h) (Or.inl ⟨by rfl, ?_⟩) (by assumption) ?_
            rotate_left 1
            · intro w hSw; (try dsimp only at hSw); go_simp; first | done | with_reducible rfl
            try simp only [Act.put]
            refine wpAnyH_take (i := 3) (v := ?_) rfl (by kernel_rfl) (by kernel_rfl) (by kernel_rfl) (fun _ _ _ h => h) (Or.inl ⟨by rfl, ?_⟩) (by assumption) ?_
            rotate_left 1
            · intro w hSw; (try dsimp only at hSw); go_simp; first | done | with_reducible rfl
            try simp only [Act.put]
            refine wpAnyH_take (i := 4) (v := ?_) rfl (by kernel_rfl) (by kernel_rfl) (by kernel_rfl) (fun _ _ _ h => h) (Or.inl ⟨by rfl, ?_⟩) (by assumption) ?_
            rotate_left 1
            · intro w hSw; (try dsimp only at hSw); go_simp; first | done | with_reducible rfl
            try simp only [Act.put]
            refine wpAnyH_take (i := 5) (v := ?_) rfl (by kernel_rfl) (by kernel_rfl) (by kernel_rfl) (fun _ _ _ h => h) (Or.inl ⟨by rfl, ?_⟩) (by assumption) ?_
            rotate_left 1
            · intro w hSw; (try dsimp only at hSw); go_simp; first | done | with_reducible rfl
            try simp only [Act.put]
            refine wpAnyH_take (i := 6) (v := ?_) rfl (by kernel_rfl) (by kernel_rfl) (by kernel_rfl) (fun _ _ _ h => h) (Or.inl ⟨by rfl, ?_⟩) (by assumption) ?_
            rotate_left 1
            · intro w hSw; (try dsimp only at hSw); go_simp; first | done | with_reducible rfl
            try simp only [Act.put]
            refine wpAnyH_take (i := 7) (v := ?_) rfl (by kernel_rfl) (by kernel_rfl) (by kernel_rfl) (fun _ _ _ h => h) (Or.inl ⟨by rfl, ?_⟩) (by assumption) ?_
            rotate_left 1
            · intro w hSw; (try dsimp only at hSw); go_simp; first | done | with_reducible rfl
            try simp only [Act.put]
            refine wpAnyH_take (i := 8) (v := ?_) rfl (by kernel_rfl) (by kernel_rfl) (by kernel_rfl) (fun _ _ _ h => h) (Or.inl ⟨by rfl, ?_⟩) (by assumption) ?_
            rotate_left 1
            · intro w hSw; (try dsimp only at hSw); go_simp; first | done | with_reducible rfl
            try simp only [Act.put]
            refine wpAnyH_take (i := 9) (v := ?_) rfl (by kernel_rfl) (by kernel_rfl) (by kernel_rfl) (fun _ _ _ h => h) (Or.inl ⟨by rfl, ?_⟩) (by assumption) ?_
            rotate_left 1
            · intro w hSw; (try dsimp only at hSw); go_simp; first | done | with_reducible rfl
            try simp only [Act.put]
            refine wpAnyH_take (i := 10) (v := ?_) rfl (by kernel_rfl) (by kernel_rfl) (by kernel_rfl) (fun _ _ _ h => h) (Or.inl ⟨by rfl, ?_⟩) (by assumption) ?_
            rotate_left 1
            · intro w hSw; (try dsimp only at hSw); go_simp; first | done | with_reducible rfl
            try simp only [Act.put]
            refine wpAnyH_take (i := 11) (v := ?_) rfl (by kernel_rfl) (by kernel_rfl) (by kernel_rfl) (fun _ _ _ h => h) (Or.inl ⟨by rfl, ?_⟩) (by assumption) ?_
            rotate_left 1
            · intro w hSw; (try dsimp only at hSw); go_simp; first | done | with_reducible rfl
            try simp only [Act.put]
            refine wpAnyH_take (i := 12) (v := ?_) rfl (by kernel_rfl) (by kernel_rfl) (by kernel_rfl) (fun _ _ _ h => h) (Or.inl ⟨by rfl, ?_⟩) (by assumption) ?_
            rotate_left 1
            · intro w hSw; (try dsimp only at hSw); go_simp; first | done | with_reducible rfl
            try simp only [Act.put]
            refine wpAnyH_ready (rs := [13]) (by kernel_rfl) (by simp) (AllReadyH.cons rfl (fun K hK => ?_) AllReadyH.nil)
            go_simp
            have HPa := Lib.hid ((HPq.out.sw.alloc (.cells #[.int .i64 (f : Int)] 3)).drew)
            have HLa := Lib.hid (World.ownsRow.drew (HLq.out.alloc (.cells #[.int .i64 (f : Int)] 3)))
            have HOBa : Hid ((wq.alloc (.cells #[.int .i64 (f : Int)] 3)).drew.ownsRow W0.heap.size 22 1 (.slice (some ⟨go, 0, none⟩) s.B.length co) s.B.length (s.B.map Prod.fst)) := by
              have h := HPa.out.fam.own _ _ HFO.out
              simp only [List.length_map] at h
              exact h
            have k4 : (wq.alloc (.cells #[.int .i64 (f : Int)] 3)).drew.cell? ⟨gs, 4, none⟩ = some (.slice (some ⟨go, 0, none⟩) s.B.length co) := (World.cell?_alloc_lt wq _ ⟨gs, 4, none⟩ qsl).trans q4
            have kb : (wq.alloc (.cells #[.int .i64 (f : Int)] 3)).drew.cell? ⟨go, pos, none⟩ = some (.slice A l.length c) := (World.cell?_alloc_lt wq _ ⟨go, pos, none⟩ qgl).trans qb
            refine hK.out _ _ (⟨k4, kb⟩) (fun hHeld => ?_)
            clear hK K
            try simp only [Act.put]
            refine wpAnyH_ready (rs := [14]) (by kernel_rfl) (by simp) (AllReadyH.cons rfl (fun K hK => ?_) AllReadyH.nil)
            refine step_append_lies _ (by rfl) _ _ _ (by rfl) W0.heap.size 3 i3 _ 1 8 Try.underlying22 HI3.out HZ3.out HS3.out HB3.out rfl (by omega) (.slice A l.length c) l.length (l.map (Value.int .i64)) (by rfl) HLa.out ⟨wq.heap.size, 0, none⟩ 1 1 [.int .i64 (f : Int)] (by rfl) (by simp) (World.news_of_block (cs := #[.int .i64 (f : Int)]) (t := 3) (fr := (0, 0)) (heap_alloc_new wq _)) (by intro u hu; rw [List.mem_singleton.1 hu]; rfl) (by omega) (by unfold maxLen; omega) (by omega) (by have := HPq.out.sw.bel.size; simp; omega) _ rfl ?_
            intro g' c' w5 hown hgr hat hlt5
            have HF := Lib.hid (HPa.out.backPush HV.out hown hgr (hat.imp (fun h => by rw [h]; rfl) (fun h => by simp [Value.ownBlock, h])) HVB.out)
            have m4 : w5.cell? ⟨gs, 4, none⟩ = some (.slice (some ⟨go, 0, none⟩) s.B.length co) := (hgr.cell_far ⟨gs, 4, none⟩ (by simp; omega) (fun e => HPa.out.ne HFB.out HPa.out.blk (by decide) (by decide) e.symm)).trans k4
            have mb : w5.cell? ⟨go, pos, none⟩ = some (.slice A l.length c) := (hgr.cell_far ⟨go, pos, none⟩ (by simp; omega) (fun e => HPa.out.fam.sep (.bk pos) .ob _ _ go (by simp) HFB.out HFO.out e.symm rfl)).trans kb
            have mz : w5.frozen? ⟨go, pos, none⟩ = false := (hgr.frozen_far ⟨go, pos, none⟩ (by simp; omega) (fun e => HPa.out.fam.sep (.bk pos) .ob _ _ go (by simp) HFB.out HFO.out e.symm rfl)).trans (HOBa.out.frozenAt pos)
            have ml : go < w5.heap.size := Nat.lt_of_lt_of_le (by simp; omega) hgr.size
            clear hown hgr hat hlt5
            refine hK.out _ _ (⟨m4, mb⟩) (fun hHeld => ?_)
            clear hK K
            try simp only [Act.put]
            refine wpAnyH_take (i := 15) (v := ?_) rfl (by kernel_rfl) (by kernel_rfl) (by kernel_rfl) (fun _ _ _ h => h) (Or.inl ⟨by rfl, ?_⟩) (by assumption) ?_
            rotate_left 1
            · intro w hSw; (try dsimp only at hSw); go_simp; first | done | with_reducible rfl
            try simp only [Act.put]
            refine wpAnyH_done (by kernel_rfl) ?_ _
            clear hHeld
            show Oper.wp _ _ _ _ _ _
            go_simp
            go_wp2_with fail
            go_roundw
            case rel => exact ⟨x + 1, _, by go_num, by omega, ⟨HF.out, HADD.out _, HPq.out.cls, HPq.out.mem, HPq.out.todo, HPq.out.vt, HPq.out.hits⟩⟩
            case measure => simp [intOf]; omega
          · have HBN : Hid (BackIn d (f + 1) 0 s.B) := HP.out.back.next (by omega)
            obtain ⟨ga, oa, va, hAa, hga, hca, hva⟩ := (HDA.out.ra.below HP.out.sw.bel).bool_ix (i := (f : Int)) (by omega) (by omega)
            have hva' : d.acc (f : Int) = va := hva
            have hlga : ga < wr.heap.size := Nat.lt_of_lt_of_le hga HP.out.sw.bel.size
            have hcl : s.cls.length = d.A.length := by rw [HP.out.cls, accCls_len]
            obtain ⟨gc', cc, hvc, c1, c2, _, c4⟩ := HP.out.sw.fam.cell (t := .cls) (e := 3) (v := s.vc) (xs := s.cls.map (Value.int .i64)) rfl (j := f) (x := .int .i64 0) (by
              rw [List.getElem?_map, HP.out.cls, accCls_new hfl]; rfl)
            rw [List.length_map, hcl] at hvc
            rw [hvc] at s5
            have hMl : s.M.length = 2 := by
              have h := congrArg List.length HP.out.mem
              rw [List.length_map] at h
              exact h
            have HVC := Lib.hid hvc; have HML := Lib.hid hMl; have HVA := Lib.hid hva'
            have HCC : Hid (wr.frozen? ⟨gc', f, none⟩ = false) := c2
            subst hAa
            rw [Int.toNat_natCast] at hca
            clear hva hva' hcl hvc hMl hga
            cases va with
            | false =>
              go_wp2_with fail
              have HSW1 : Hid (SW W0 wr d An cn (some ⟨ga, oa, none⟩) ca gs s) := HP.out.sw
              have k5 : wr.cell? ⟨gc', f, none⟩ = some (.int .i64 0) := c1
              generalize wr = wq at HSW1 k5 ⊢
              obtain ⟨sq, hsq⟩ : ∃ sq : SS, sq = s := ⟨_, rfl⟩
              rw [← hsq] at HSW1
              have HSQC : Hid (sq.cls = accCls d (f + 1)) := by
                show _ = _
                rw [accCls_succ, HVA.out, hsq]
                simp only [Bool.false_eq_true, if_false]; exact HP.out.cls
              have HSQM : Hid (sq.M = s.M) := by show _ = _; rw [hsq]
              have HSQB : Hid (sq.B = s.B) := by show _ = _; rw [hsq]
              have HSQT : Hid (sq.T = [] ∧ sq.vt = .slice none 0 0 ∧ sq.H = fun _ => none) := by rw [hsq]; exact ⟨HP.out.todo, HP.out.vt, HP.out.hits⟩
              have HVC1 : Hid (sq.vc = .slice (some ⟨gc', 0, none⟩) d.A.length cc) := by show _ = _; rw [hsq]; exact HVC.out
              have HMM : Hid (sq.M.map Prod.snd = accM d f) := by show _ = _; rw [HSQM.out]; exact HP.out.mem
              have HML1 : Hid (sq.M.length = 2) := by show _ = _; rw [HSQM.out]; exact HML.out
              clear HP s0 s4 s5 s6 s7 hsl a0 a1 a2 a3 hbl c1 c4 hsq hca hlga HVC HCC HSQM HML
              obtain ⟨A, c, l, hMc, hfm, _, gm', cm, hvm, m1, m2, m3, m4⟩ := HSW1.out.memRow (c := 0) (by rw [HML1.out]; omega)
              rw [HML1.out] at hvm
              obtain ⟨⟨t0, t4, t5, t6, t7⟩, hsl⟩ := HSW1.out.cells
              rw [hvm] at t6
              rw [HVC1.out] at t5
              have HVM := Lib.hid hvm; have HMC := Lib.hid hMc; have HFM := Lib.hid hfm
              have HFO : Hid (sq.fam .om = some ⟨22, .slice (some ⟨gm', 0, none⟩) 2 cm, sq.M.map Prod.fst⟩) := by show _ = _; rw [← hvm]; rfl
              have HFC : Hid (sq.fam .cls = some ⟨3, .slice (some ⟨gc', 0, none⟩) d.A.length cc, sq.cls.map (Value.int .i64)⟩) := by show _ = _; rw [← HVC1.out]; rfl
              have hput := fun v' => accM_put (v' := v') HMM.out (show 0 = (if d.acc (f : Int) = true then 1 else 0) by rw [HVA.out]; rfl) hMc
              have hll : l.length ≤ 65536 := by
                have h := accN_len d f (d.acc (f : Int))
                rw [← (hput (.int .i64 0)).1] at h
                omega
              have HPUT := Lib.hid (fun v' => (hput v').2)
              have HL3 : Hid (wq.ownsRow W0.heap.size 3 1 (.slice A l.length c) l.length (l.map (Value.int .i64))) := by
                have h := HSW1.out.fam.own _ _ HFM.out
                simp only [List.length_map] at h
                exact h
              have hcl5 : gc' < wq.heap.size := (HSW1.out.fam.lt HFC.out rfl).2
              clear hvm hMc hfm hput t0 t4 t7 m2 m3
              go_upto_region 14 with fail
              refine wp_region_peelF (S := fun w' => w'.cell? ⟨gs, 6, none⟩ = some (.slice (some ⟨gm', 0, none⟩) 2 cm) ∧ w'.cell? ⟨gs, 5, none⟩ = some (.slice (some ⟨gc', 0, none⟩) d.A.length cc) ∧ w'.cell? ⟨gc', f, none⟩ = some (.int .i64 0) ∧ w'.cell? ⟨gm', 0, none⟩ = some (.slice A l.length c)) (List.cons_ne_nil _ _) (by kernel_rfl) (by kernel_rfl) (⟨t6, t5, k5, m1⟩) (fun hHeld => ?_)
              simp only [List.dropLast_cons_cons, List.dropLast_singleton, List.length_cons, List.length_nil, Nat.zero_add, Nat.reduceAdd]
              refine wpAnyH_take (i := 0) (v := ?_) rfl (by kernel_rfl) (by kernel_rfl) (by kernel_rfl) (fun _ _ _ h => h) (Or.inl ⟨by rfl, ?_⟩) (by assumption) ?_
              rotate_left 1
              · intro w hSw; (try dsimp only at hSw); go_simp; first | done | with_reducible rfl
              try simp only [Act.put]
              refine wpAnyH_take (i := 1) (v := ?_) rfl (by kernel_rfl) (by kernel_rfl) (by kernel_rfl) (fun _ _ _ h => h) (Or.inl ⟨by rfl, ?_⟩) (by assumption) ?_
              rotate_left 1
              · intro w hSw; (try dsimp only at hSw); go_simp; first | done | with_reducible rfl
              try simp only [Act.put]
              refine wpAnyH_take (i := 2) (v := ?_) rfl (by kernel_rfl) (by kernel_rfl) (by kernel_rfl) (fun _ _ _ h => h) (Or.inl ⟨by rfl, ?_⟩) (by assumption) ?_
              rotate_left 1
              · intro w hSw; (try dsimp only at hSw); go_simp; first | done | with_reducible rfl
              try simp only [Act.put]
              refine wpAnyH_take (i := 3) (v := ?_) rfl (by kernel_rfl) (by kernel_rfl) (by kernel_rfl) (fun _ _ _ h => h) (Or.inl ⟨by rfl, ?_⟩) (by assumption) ?_
              rotate_left 1
              · intro w hSw; (try dsimp only at hSw); go_simp; first | done | with_reducible rfl
              try simp only [Act.put]
              refine wpAnyH_take (i := 4) (v := ?_) rfl (by kernel_rfl) (by kernel_rfl) (by kernel_rfl) (fun _ _ _ h => h) (Or.inl ⟨by rfl, ?_⟩) (by assumption) ?_
              rotate_left 1
              · intro w hSw; (try dsimp only at hSw); go_simp; first | done | with_reducible rfl
              try simp only [Act.put]
              refine wpAnyH_take (i := 5) (v := ?_) rfl (by kernel_rfl) (by kernel_rfl) (by kernel_rfl) (fun _ _ _ h => h) (Or.inl ⟨by rfl, ?_⟩) (by assumption) ?_
              rotate_left 1
              · intro w hSw; (try dsimp only at hSw); go_simp; first | done | with_reducible rfl
              try simp only [Act.put]
              refine wpAnyH_take (i := 6) (v := ?_) rfl (by kernel_rfl) (by kernel_rfl) (by kernel_rfl) (fun _ _ _ h => h) (Or.inl ⟨by rfl, ?_⟩) (by assumption) ?_
              rotate_left 1
              · intro w hSw; (try dsimp only at hSw); go_simp; first | done | with_reducible rfl
              try simp only [Act.put]
              refine wpAnyH_take (i := 7) (v := ?_) rfl (by kernel_rfl) (by kernel_rfl) (by kernel_rfl) (fun _ _ _ h => h) (Or.inl ⟨by rfl, ?_⟩) (by assumption) ?_
              rotate_left 1
              · intro w hSw; (try dsimp only at hSw); go_simp; first | done | with_reducible rfl
              try simp only [Act.put]
              refine wpAnyH_take (i := 8) (v := ?_) rfl (by kernel_rfl) (by kernel_rfl) (by kernel_rfl) (fun _ _ _ h => h) (Or.inl ⟨by rfl, ?_⟩) (by assumption) ?_
              rotate_left 1
              · intro w hSw; (try dsimp only at hSw); go_simp; first | done | with_reducible rfl
              try simp only [Act.put]
              refine wpAnyH_take (i := 9) (v := ?_) rfl (by kernel_rfl) (by kernel_rfl) (by kernel_rfl) (fun _ _ _ h => h) (Or.inl ⟨by rfl, ?_⟩) (by assumption) ?_
              rotate_left 1
              · intro w hSw; (try dsimp only at hSw); go_simp; first | done | with_reducible rfl
              try simp only [Act.put]
              refine wpAnyH_take (i := 10) (v := ?_) rfl (by kernel_rfl) (by kernel_rfl) (by kernel_rfl) (fun _ _ _ h => h) (Or.inl ⟨by rfl, ?_⟩) (by assumption) ?_
              rotate_left 1
              · intro w hSw; (try dsimp only at hSw); go_simp; first | done | with_reducible rfl
              try simp only [Act.put]
              refine wpAnyH_take (i := 11) (v := ?_) rfl (by kernel_rfl) (by kernel_rfl) (by kernel_rfl) (fun _ _ _ h => h) (Or.inl ⟨by rfl, ?_⟩) (by assumption) ?_
              rotate_left 1
              · intro w hSw; (try dsimp only at hSw); go_simp; first | done | with_reducible rfl
              try simp only [Act.put]
              refine wpAnyH_take (i := 12) (v := ?_) rfl (by kernel_rfl) (by kernel_rfl) (by kernel_rfl) (fun _ _ _ h => h) (Or.inl ⟨by rfl, ?_⟩) (by assumption) ?_
              rotate_left 1
              · intro w hSw; (try dsimp only at hSw); go_simp; first | done | with_reducible rfl
              try simp only [Act.put]
              refine wpAnyH_take (i := 13) (v := ?_) rfl (by kernel_rfl) (by kernel_rfl) (by kernel_rfl) (fun _ _ _ h => h) (Or.inl ⟨by rfl, ?_⟩) (by assumption) ?_
              rotate_left 1
              · intro w hSw; (try dsimp only at hSw); go_simp; first | done | with_reducible rfl
              try simp only [Act.put]
              refine wpAnyH_take (i := 14) (v := ?_) rfl (by kernel_rfl) (by kernel_rfl) (by kernel_rfl) (fun _ _ _ h => h) (Or.inl ⟨by rfl, ?_⟩) (by assumption) ?_
              rotate_left 1
              · intro w hSw; (try dsimp only at hSw); go_simp; first | done | with_reducible rfl
              try simp only [Act.put]
              refine wpAnyH_take (i := 15) (v := ?_) rfl (by kernel_rfl) (by kernel_rfl) (by kernel_rfl) (fun _ _ _ h => h) (Or.inl ⟨by rfl, ?_⟩) (by assumption) ?_
              rotate_left 1
              · intro w hSw; (try dsimp only at hSw); go_simp; first | done | with_reducible rfl
              try simp only [Act.put]
              refine wpAnyH_take (i := 16) (v := ?_) rfl (by kernel_rfl) (by kernel_rfl) (by kernel_rfl) (fun _ _ _ h => h) (Or.inl ⟨by rfl, ?_⟩) (by assumption) ?_
              rotate_left 1
              · intro w hSw; (try dsimp only at hSw); go_simp; first | done | with_reducible rfl
              try simp only [Act.put]
              refine wpAnyH_take (i := 17) (v := ?_) rfl (by kernel_rfl) (by kernel_rfl) (by kernel_rfl) (fun _ _ _ h => h) (Or.inl ⟨by rfl, ?_⟩) (by assumption) ?_
              rotate_left 1
              · intro w hSw; (try dsimp only at hSw); go_simp; first | done | with_reducible rfl
              try simp only [Act.put]
              refine wpAnyH_take (i := 18) (v := ?_) rfl (by kernel_rfl) (by kernel_rfl) (by kernel_rfl) (fun _ _ _ h => h) (Or.inl ⟨by rfl, ?_⟩) (by assumption) ?_
              rotate_left 1
              · intro w hSw; (try dsimp only at hSw); go_simp; first | done | with_reducible rfl
              try simp only [Act.put]
              refine wpAnyH_take (i := 19) (v := ?_) rfl (by kernel_rfl) (by kernel_rfl) (by kernel_rfl) (fun _ _ _ h => h) (Or.inl ⟨by rfl, ?_⟩) (by assumption) ?_
              rotate_left 1
              · intro w hSw; (try dsimp only at hSw); go_simp; first | done | with_reducible rfl
              try simp only [Act.put]
              refine wpAnyH_take (i := 20) (v := ?_) rfl (by kernel_rfl) (by kernel_rfl) (by kernel_rfl) (fun _ _ _ h => h) (Or.inl ⟨by rfl, ?_⟩) (by assumption) ?_
              rotate_left 1
              · intro w hSw; (try dsimp only at hSw); go_simp; first | done | with_reducible rfl
              try simp only [Act.put]
              refine wpAnyH_take (i := 21) (v := ?_) rfl (by kernel_rfl) (by kernel_rfl) (by kernel_rfl) (fun _ _ _ h => h) (Or.inl ⟨by rfl, ?_⟩) (by assumption) ?_
              rotate_left 1
              · intro w hSw; (try dsimp only at hSw); go_simp; first | done | with_reducible rfl
              try simp only [Act.put]
              refine wpAnyH_take (i := 22) (v := ?_) rfl (by kernel_rfl) (by kernel_rfl) (by kernel_rfl) (fun _ _ _ h => h) (Or.inl ⟨by rfl, ?_⟩) (by assumption) ?_
              rotate_left 1
              · intro w hSw; (try dsimp only at hSw); go_simp; first | done | with_reducible rfl
              try simp only [Act.put]
              refine wpAnyH_take (i := 23) (v := ?_) rfl (by kernel_rfl) (by kernel_rfl) (by kernel_rfl) (fun _ _ _ h => h) (Or.inl ⟨by rfl, ?_⟩) (by assumption) ?_
              rotate_left 1
              · intro w hSw; (try dsimp only at hSw); go_simp; first | done | with_reducible rfl
              try simp only [Act.put]
              refine wpAnyH_take (i := 24) (v := ?_) rfl (by kernel_rfl) (by kernel_rfl) (by kernel_rfl) (fun _ _ _ h => h) (Or.inl ⟨by rfl, ?_⟩) (by assumption) ?_
              rotate_left 1
              · intro w hSw; (try dsimp only at hSw); go_simp; first | done | with_reducible rfl
              try simp only [Act.put]
              refine wpAnyH_ready (rs := [25]) (by kernel_rfl) (by simp) (AllReadyH.cons rfl (fun K hK => ?_) AllReadyH.nil)
              go_simp
              have HPa := Lib.hid ((HSW1.out.alloc (.cells #[.int .i64 (f : Int)] 3)).drew)
              have HLa := Lib.hid (World.ownsRow.drew (HL3.out.alloc (.cells #[.int .i64 (f : Int)] 3)))
              have HOBa : Hid ((wq.alloc (.cells #[.int .i64 (f : Int)] 3)).drew.ownsRow W0.heap.size 22 1 (.slice (some ⟨gm', 0, none⟩) 2 cm) 2 (sq.M.map Prod.fst)) := by
                have h := HPa.out.fam.own _ _ HFO.out
                simp only [List.length_map, HML1.out] at h
                exact h
              have x0 : (wq.alloc (.cells #[.int .i64 (f : Int)] 3)).drew.cell? ⟨gs, 6, none⟩ = some (.slice (some ⟨gm', 0, none⟩) 2 cm) := (World.cell?_alloc_lt wq _ ⟨gs, 6, none⟩ hsl).trans t6
              have x1 : (wq.alloc (.cells #[.int .i64 (f : Int)] 3)).drew.cell? ⟨gs, 5, none⟩ = some (.slice (some ⟨gc', 0, none⟩) d.A.length cc) := (World.cell?_alloc_lt wq _ ⟨gs, 5, none⟩ hsl).trans t5
              have x2 : (wq.alloc (.cells #[.int .i64 (f : Int)] 3)).drew.cell? ⟨gc', f, none⟩ = some (.int .i64 0) := (World.cell?_alloc_lt wq _ ⟨gc', f, none⟩ hcl5).trans k5
              have x3 : (wq.alloc (.cells #[.int .i64 (f : Int)] 3)).drew.cell? ⟨gm', 0, none⟩ = some (.slice A l.length c) := (World.cell?_alloc_lt wq _ ⟨gm', 0, none⟩ m4).trans m1
              refine hK.out _ _ (⟨x0, x1, x2, x3⟩) (fun hHeld => ?_)
              clear hK K
              try simp only [Act.put]
              refine wpAnyH_ready (rs := [26]) (by kernel_rfl) (by simp) (AllReadyH.cons rfl (fun K hK => ?_) AllReadyH.nil)
              refine step_append_lies _ (by rfl) _ _ _ (by rfl) W0.heap.size 3 i3 _ 1 8 Try.underlying22 HI3.out HZ3.out HS3.out HB3.out rfl (by omega) (.slice A l.length c) l.length (l.map (Value.int .i64)) (by rfl) HLa.out ⟨wq.heap.size, 0, none⟩ 1 1 [.int .i64 (f : Int)] (by rfl) (by simp) (World.news_of_block (cs := #[.int .i64 (f : Int)]) (t := 3) (fr := (0, 0)) (heap_alloc_new wq _)) (by intro u hu; rw [List.mem_singleton.1 hu]; rfl) (by omega) (by unfold maxLen; omega) (by omega) (by have := HSW1.out.bel.size; simp; omega) _ rfl ?_
              intro g' c' w5 hown hgr hat hlt5
              have HF := Lib.hid (HPa.out.memApp HMC.out hown hgr (hat.imp (fun h => by rw [h]; rfl) (fun h => by simp [Value.ownBlock, h])) HVM.out)
              have y0 : w5.cell? ⟨gs, 6, none⟩ = some (.slice (some ⟨gm', 0, none⟩) 2 cm) := (hgr.cell_far ⟨gs, 6, none⟩ (by simp; omega) (fun e => HPa.out.ne HFM.out HPa.out.blk (by decide) (by decide) e.symm)).trans x0
              have y1 : w5.cell? ⟨gs, 5, none⟩ = some (.slice (some ⟨gc', 0, none⟩) d.A.length cc) := (hgr.cell_far ⟨gs, 5, none⟩ (by simp; omega) (fun e => HPa.out.ne HFM.out HPa.out.blk (by decide) (by decide) e.symm)).trans x1
              have y2 : w5.cell? ⟨gc', f, none⟩ = some (.int .i64 0) := (hgr.cell_far ⟨gc', f, none⟩ (by simp; omega) (fun e => HPa.out.fam.sep (.mem 0) .cls _ _ gc' (by simp) HFM.out HFC.out e.symm rfl)).trans x2
              have y3 : w5.cell? ⟨gm', 0, none⟩ = some (.slice A l.length c) := (hgr.cell_far ⟨gm', 0, none⟩ (by simp; omega) (fun e => HPa.out.fam.sep (.mem 0) .om _ _ gm' (by simp) HFM.out HFO.out e.symm rfl)).trans x3
              have mz : w5.frozen? ⟨gm', 0, none⟩ = false := (hgr.frozen_far ⟨gm', 0, none⟩ (by simp; omega) (fun e => HPa.out.fam.sep (.mem 0) .om _ _ gm' (by simp) HFM.out HFO.out e.symm rfl)).trans (HOBa.out.frozenAt 0)
              have ml : gm' < w5.heap.size := Nat.lt_of_lt_of_le (by simp; omega) hgr.size
              clear hown hgr hat hlt5
              refine hK.out _ _ (⟨y0, y1, y2, y3⟩) (fun hHeld => ?_)
              clear hK K
              try simp only [Act.put]
              refine wpAnyH_take (i := 27) (v := ?_) rfl (by kernel_rfl) (by kernel_rfl) (by kernel_rfl) (fun _ _ _ h => h) (Or.inl ⟨by rfl, ?_⟩) (by assumption) ?_
              rotate_left 1
              · intro w hSw; (try dsimp only at hSw); go_simp; first | done | with_reducible rfl
              try simp only [Act.put]
              refine wpAnyH_done (by kernel_rfl) ?_ _
              clear hHeld
              show Oper.wp _ _ _ _ _ _
              go_simp
              go_wp2_with fail
              go_roundw
              case rel =>
                refine ⟨f + 1, _, by go_num, by omega, ⟨HF.out, ?_, HSQC.out, HPUT.out _, HSQT.out.1, HSQT.out.2.1, HSQT.out.2.2⟩⟩
                show BackIn d (f + 1) 0 sq.B
                rw [HSQB.out]; exact HBN.out
              case measure => simp [intOf]; omega
            | true =>
              go_wp2_with fail
              have HSW1 : Hid (SW W0 (wr.setCell ⟨gc', f, none⟩ (.int .i64 1)) d An cn (some ⟨ga, oa, none⟩) ca gs { s with cls := s.cls.set f 1 }) := HP.out.sw.setCls HVC.out f 1
              have k5 : (wr.setCell ⟨gc', f, none⟩ (.int .i64 1)).cell? ⟨gc', f, none⟩ = some (.int .i64 1) := World.cell?_setCell_same' _ _ _ (by rw [c1]; rfl)
              generalize wr.setCell ⟨gc', f, none⟩ (.int .i64 1) = wq at HSW1 k5 ⊢
              obtain ⟨sq, hsq⟩ : ∃ sq : SS, sq = { s with cls := s.cls.set f 1 } := ⟨_, rfl⟩
              rw [← hsq] at HSW1
              have HSQC : Hid (sq.cls = accCls d (f + 1)) := by
                show _ = _
                rw [accCls_succ, HVA.out, hsq]
                simp only [if_true]; rw [HP.out.cls]
              have HSQM : Hid (sq.M = s.M) := by show _ = _; rw [hsq]
              have HSQB : Hid (sq.B = s.B) := by show _ = _; rw [hsq]
              have HSQT : Hid (sq.T = [] ∧ sq.vt = .slice none 0 0 ∧ sq.H = fun _ => none) := by rw [hsq]; exact ⟨HP.out.todo, HP.out.vt, HP.out.hits⟩
              have HVC1 : Hid (sq.vc = .slice (some ⟨gc', 0, none⟩) d.A.length cc) := by show _ = _; rw [hsq]; exact HVC.out
              have HMM : Hid (sq.M.map Prod.snd = accM d f) := by show _ = _; rw [HSQM.out]; exact HP.out.mem
              have HML1 : Hid (sq.M.length = 2) := by show _ = _; rw [HSQM.out]; exact HML.out
              clear HP s0 s4 s5 s6 s7 hsl a0 a1 a2 a3 hbl c1 c4 hsq hca hlga HVC HCC HSQM HML
              obtain ⟨A, c, l, hMc, hfm, _, gm', cm, hvm, m1, m2, m3, m4⟩ := HSW1.out.memRow (c := 1) (by rw [HML1.out]; omega)
              rw [HML1.out] at hvm
              obtain ⟨⟨t0, t4, t5, t6, t7⟩, hsl⟩ := HSW1.out.cells
              rw [hvm] at t6
              rw [HVC1.out] at t5
              have HVM := Lib.hid hvm; have HMC := Lib.hid hMc; have HFM := Lib.hid hfm
              have HFO : Hid (sq.fam .om = some ⟨22, .slice (some ⟨gm', 0, none⟩) 2 cm, sq.M.map Prod.fst⟩) := by show _ = _; rw [← hvm]; rfl
              have HFC : Hid (sq.fam .cls = some ⟨3, .slice (some ⟨gc', 0, none⟩) d.A.length cc, sq.cls.map (Value.int .i64)⟩) := by show _ = _; rw [← HVC1.out]; rfl
              have hput := fun v' => accM_put (v' := v') HMM.out (show 1 = (if d.acc (f : Int) = true then 1 else 0) by rw [HVA.out]; rfl) hMc
              have hll : l.length ≤ 65536 := by
                have h := accN_len d f (d.acc (f : Int))
                rw [← (hput (.int .i64 0)).1] at h
                omega
              have HPUT := Lib.hid (fun v' => (hput v').2)
              have HL3 : Hid (wq.ownsRow W0.heap.size 3 1 (.slice A l.length c) l.length (l.map (Value.int .i64))) := by
                have h := HSW1.out.fam.own _ _ HFM.out
                simp only [List.length_map] at h
                exact h
              have hcl5 : gc' < wq.heap.size := (HSW1.out.fam.lt HFC.out rfl).2
              clear hvm hMc hfm hput t0 t4 t7 m2 m3
              go_upto_region 14 with fail
              refine wp_region_peelF (S := fun w' => w'.cell? ⟨gs, 6, none⟩ = some (.slice (some ⟨gm', 0, none⟩) 2 cm) ∧ w'.cell? ⟨gs, 5, none⟩ = some (.slice (some ⟨gc', 0, none⟩) d.A.length cc) ∧ w'.cell? ⟨gc', f, none⟩ = some (.int .i64 1) ∧ w'.cell? ⟨gm', 1, none⟩ = some (.slice A l.length c)) (List.cons_ne_nil _ _) (by kernel_rfl) (by kernel_rfl) (⟨t6, t5, k5, m1⟩) (fun hHeld => ?_)
              simp only [List.dropLast_cons_cons, List.dropLast_singleton, List.length_cons, List.length_nil, Nat.zero_add, Nat.reduceAdd]
              refine wpAnyH_take (i := 0) (v := ?_) rfl (by kernel_rfl) (by kernel_rfl) (by kernel_rfl) (fun _ _ _ h => h) (Or.inl ⟨by rfl, ?_⟩) (by assumption) ?_
              rotate_left 1
              · intro w hSw; (try dsimp only at hSw); go_simp; first | done | with_reducible rfl
              try simp only [Act.put]
              refine wpAnyH_take (i := 1) (v := ?_) rfl (by kernel_rfl) (by kernel_rfl) (by kernel_rfl) (fun _ _ _ h => h) (Or.inl ⟨by rfl, ?_⟩) (by assumption) ?_
              rotate_left 1
              · intro w hSw; (try dsimp only at hSw); go_simp; first | done | with_reducible rfl
              try simp only [Act.put]
              refine wpAnyH_take (i := 2) (v := ?_) rfl (by kernel_rfl) (by kernel_rfl) (by kernel_rfl) (fun _ _ _ h => h) (Or.inl ⟨by rfl, ?_⟩) (by assumption) ?_
              rotate_left 1
              · intro w hSw; (try dsimp only at hSw); go_simp; first | done | with_reducible rfl
              try simp only [Act.put]
              refine wpAnyH_take (i := 3) (v := ?_) rfl (by kernel_rfl) (by kernel_rfl) (by kernel_rfl) (fun _ _ _ h => h) (Or.inl ⟨by rfl, ?_⟩) (by assumption) ?_
              rotate_left 1
              · intro w hSw; (try dsimp only at hSw); go_simp; first | done | with_reducible rfl
              try simp only [Act.put]
              refine wpAnyH_take (i := 4) (v := ?_) rfl (by kernel_rfl) (by kernel_rfl) (by kernel_rfl) (fun _ _ _ h => h) (Or.inl ⟨by rfl, ?_⟩) (by assumption) ?_
              rotate_left 1
              · intro w hSw; (try dsimp only at hSw); go_simp; first | done | with_reducible rfl
              try simp only [Act.put]
              refine wpAnyH_take (i := 5) (v := ?_) rfl (by kernel_rfl) (by kernel_rfl) (by kernel_rfl) (fun _ _ _ h => h) (Or.inl ⟨by rfl, ?_⟩) (by assumption) ?_
              rotate_left 1
              · intro w hSw; (try dsimp only at hSw); go_simp; first | done | with_reducible rfl
              try simp only [Act.put]
              refine wpAnyH_take (i := 6) (v := ?_) rfl (by kernel_rfl) (by kernel_rfl) (by kernel_rfl) (fun _ _ _ h => h) (Or.inl ⟨by rfl, ?_⟩) (by assumption) ?_
              rotate_left 1
              · intro w hSw; (try dsimp only at hSw); go_simp; first | done | with_reducible rfl
              try simp only [Act.put]
              refine wpAnyH_take (i := 7) (v := ?_) rfl (by kernel_rfl) (by kernel_rfl) (by kernel_rfl) (fun _ _ _ h => h) (Or.inl ⟨by rfl, ?_⟩) (by assumption) ?_
              rotate_left 1
              · intro w hSw; (try dsimp only at hSw); go_simp; first | done | with_reducible rfl
              try simp only [Act.put]
              refine wpAnyH_take (i := 8) (v := ?_) rfl (by kernel_rfl) (by kernel_rfl) (by kernel_rfl) (fun _ _ _ h => h) (Or.inl ⟨by rfl, ?_⟩) (by assumption) ?_
              rotate_left 1
              · intro w hSw; (try dsimp only at hSw); go_simp; first | done | with_reducible rfl
              try simp only [Act.put]
              refine wpAnyH_take (i := 9) (v := ?_) rfl (by kernel_rfl) (by kernel_rfl) (by kernel_rfl) (fun _ _ _ h => h) (Or.inl ⟨by rfl, ?_⟩) (by assumption) ?_
              rotate_left 1
              · intro w hSw; (try dsimp only at hSw); go_simp; first | done | with_reducible rfl
              try simp only [Act.put]
              refine wpAnyH_take (i := 10) (v := ?_) rfl (by kernel_rfl) (by kernel_rfl) (by kernel_rfl) (fun _ _ _ h => h) (Or.inl ⟨by rfl, ?_⟩) (by assumption) ?_
              rotate_left 1
              · intro w hSw; (try dsimp only at hSw); go_simp; first | done | with_reducible rfl
              try simp only [Act.put]
              refine wpAnyH_take (i := 11) (v := ?_) rfl (by kernel_rfl) (by kernel_rfl) (by kernel_rfl) (fun _ _ _ h => h) (Or.inl ⟨by rfl, ?_⟩) (by assumption) ?_
              rotate_left 1
              · intro w hSw; (try dsimp only at hSw); go_simp; first | done | with_reducible rfl
              try simp only [Act.put]
              refine wpAnyH_take (i := 12) (v := ?_) rfl (by kernel_rfl) (by kernel_rfl) (by kernel_rfl) (fun _ _ _ h => h) (Or.inl ⟨by rfl, ?_⟩) (by assumption) ?_
              rotate_left 1
              · intro w hSw; (try dsimp only at hSw); go_simp; first | done | with_reducible rfl
              try simp only [Act.put]
              refine wpAnyH_take (i := 13) (v := ?_) rfl (by kernel_rfl) (by kernel_rfl) (by kernel_rfl) (fun _ _ _ h => h) (Or.inl ⟨by rfl, ?_⟩) (by assumption) ?_
              rotate_left 1
              · intro w hSw; (try dsimp only at hSw); go_simp; first | done | with_reducible rfl
              try simp only [Act.put]
              refine wpAnyH_take (i := 14) (v := ?_) rfl (by kernel_rfl) (by kernel_rfl) (by kernel_rfl) (fun _ _ _ h => h) (Or.inl ⟨by rfl, ?_⟩) (by assumption) ?_
              rotate_left 1
              · intro w hSw; (try dsimp only at hSw); go_simp; first | done | with_reducible rfl
              try simp only [Act.put]
              refine wpAnyH_take (i := 15) (v := ?_) rfl (by kernel_rfl) (by kernel_rfl) (by kernel_rfl) (fun _ _ _ h => h) (Or.inl ⟨by rfl, ?_⟩) (by assumption) ?_
              rotate_left 1
              · intro w hSw; (try dsimp only at hSw); go_simp; first | done | with_reducible rfl
              try simp only [Act.put]
              refine wpAnyH_take (i := 16) (v := ?_) rfl (by kernel_rfl) (by kernel_rfl) (by kernel_rfl) (fun _ _ _ h => h) (Or.inl ⟨by rfl, ?_⟩) (by assumption) ?_
              rotate_left 1
              · intro w hSw; (try dsimp only at hSw); go_simp; first | done | with_reducible rfl
              try simp only [Act.put]
              refine wpAnyH_take (i := 17) (v := ?_) rfl (by kernel_rfl) (by kernel_rfl) (by kernel_rfl) (fun _ _ _ h => h) (Or.inl ⟨by rfl, ?_⟩) (by assumption) ?_
              rotate_left 1
              · intro w hSw; (try dsimp only at hSw); go_simp; first | done | with_reducible rfl
              try simp only [Act.put]
              refine wpAnyH_take (i := 18) (v := ?_) rfl (by kernel_rfl) (by kernel_rfl) (by kernel_rfl) (fun _ _ _ h => h) (Or.inl ⟨by rfl, ?_⟩) (by assumption) ?_
              rotate_left 1
              · intro w hSw; (try dsimp only at hSw); go_simp; first | done | with_reducible rfl
              try simp only [Act.put]
              refine wpAnyH_take (i := 19) (v := ?_) rfl (by kernel_rfl) (by kernel_rfl) (by kernel_rfl) (fun _ _ _ h => h) (Or.inl ⟨by rfl, ?_⟩) (by assumption) ?_
              rotate_left 1
              · intro w hSw; (try dsimp only at hSw); go_simp; first | done | with_reducible rfl
              try simp only [Act.put]
              refine wpAnyH_take (i := 20) (v := ?_) rfl (by kernel_rfl) (by kernel_rfl) (by kernel_rfl) (fun _ _ _ h => h) (Or.inl ⟨by rfl, ?_⟩) (by assumption) ?_
              rotate_left 1
              · intro w hSw; (try dsimp only at hSw); go_simp; first | done | with_reducible rfl
              try simp only [Act.put]
              refine wpAnyH_take (i := 21) (v := ?_) rfl (by kernel_rfl) (by kernel_rfl) (by kernel_rfl) (fun _ _ _ h => h) (Or.inl ⟨by rfl, ?_⟩) (by assumption) ?_
              rotate_left 1
              · intro w hSw; (try dsimp only at hSw); go_simp; first | done | with_reducible rfl
              try simp only [Act.put]
              refine wpAnyH_take (i := 22) (v := ?_) rfl (by kernel_rfl) (by kernel_rfl) (by kernel_rfl) (fun _ _ _ h => h) (Or.inl ⟨by rfl, ?_⟩) (by assumption) ?_
              rotate_left 1
              · intro w hSw; (try dsimp only at hSw); go_simp; first | done | with_reducible rfl
              try simp only [Act.put]
              refine wpAnyH_take (i := 23) (v := ?_) rfl (by kernel_rfl) (by kernel_rfl) (by kernel_rfl) (fun _ _ _ h => h) (Or.inl ⟨by rfl, ?_⟩) (by assumption) ?_
              rotate_left 1
              · intro w hSw; (try dsimp only at hSw); go_simp; first | done | with_reducible rfl
              try simp only [Act.put]
              refine wpAnyH_take (i := 24) (v := ?_) rfl (by kernel_rfl) (by kernel_rfl) (by kernel_rfl) (fun _ _ _ h => h) (Or.inl ⟨by rfl, ?_⟩) (by assumption) ?_
              rotate_left 1
              · intro w hSw; (try dsimp only at hSw); go_simp; first | done | with_reducible rfl
              try simp only [Act.put]
              refine wpAnyH_ready (rs := [25]) (by kernel_rfl) (by simp) (AllReadyH.cons rfl (fun K hK => ?_) AllReadyH.nil)
              go_simp
              have HPa := Lib.hid ((HSW1.out.alloc (.cells #[.int .i64 (f : Int)] 3)).drew)
              have HLa := Lib.hid (World.ownsRow.drew (HL3.out.alloc (.cells #[.int .i64 (f : Int)] 3)))
              have HOBa : Hid ((wq.alloc (.cells #[.int .i64 (f : Int)] 3)).drew.ownsRow W0.heap.size 22 1 (.slice (some ⟨gm', 0, none⟩) 2 cm) 2 (sq.M.map Prod.fst)) := by
                have h := HPa.out.fam.own _ _ HFO.out
                simp only [List.length_map, HML1.out] at h
                exact h
              have x0 : (wq.alloc (.cells #[.int .i64 (f : Int)] 3)).drew.cell? ⟨gs, 6, none⟩ = some (.slice (some ⟨gm', 0, none⟩) 2 cm) := (World.cell?_alloc_lt wq _ ⟨gs, 6, none⟩ hsl).trans t6
              have x1 : (wq.alloc (.cells #[.int .i64 (f : Int)] 3)).drew.cell? ⟨gs, 5, none⟩ = some (.slice (some ⟨gc', 0, none⟩) d.A.length cc) := (World.cell?_alloc_lt wq _ ⟨gs, 5, none⟩ hsl).trans t5
              have x2 : (wq.alloc (.cells #[.int .i64 (f : Int)] 3)).drew.cell? ⟨gc', f, none⟩ = some (.int .i64 1) := (World.cell?_alloc_lt wq _ ⟨gc', f, none⟩ hcl5).trans k5
              have x3 : (wq.alloc (.cells #[.int .i64 (f : Int)] 3)).drew.cell? ⟨gm', 1, none⟩ = some (.slice A l.length c) := (World.cell?_alloc_lt wq _ ⟨gm', 1, none⟩ m4).trans m1
              refine hK.out _ _ (⟨x0, x1, x2, x3⟩) (fun hHeld => ?_)
              clear hK K
              try simp only [Act.put]
              refine wpAnyH_ready (rs := [26]) (by kernel_rfl) (by simp) (AllReadyH.cons rfl (fun K hK => ?_) AllReadyH.nil)
              refine step_append_lies _ (by rfl) _ _ _ (by rfl) W0.heap.size 3 i3 _ 1 8 Try.underlying22 HI3.out HZ3.out HS3.out HB3.out rfl (by omega) (.slice A l.length c) l.length (l.map (Value.int .i64)) (by rfl) HLa.out ⟨wq.heap.size, 0, none⟩ 1 1 [.int .i64 (f : Int)] (by rfl) (by simp) (World.news_of_block (cs := #[.int .i64 (f : Int)]) (t := 3) (fr := (0, 0)) (heap_alloc_new wq _)) (by intro u hu; rw [List.mem_singleton.1 hu]; rfl) (by omega) (by unfold maxLen; omega) (by omega) (by have := HSW1.out.bel.size; simp; omega) _ rfl ?_
              intro g' c' w5 hown hgr hat hlt5
              have HF := Lib.hid (HPa.out.memApp HMC.out hown hgr (hat.imp (fun h => by rw [h]; rfl) (fun h => by simp [Value.ownBlock, h])) HVM.out)
              have y0 : w5.cell? ⟨gs, 6, none⟩ = some (.slice (some ⟨gm', 0, none⟩) 2 cm) := (hgr.cell_far ⟨gs, 6, none⟩ (by simp; omega) (fun e => HPa.out.ne HFM.out HPa.out.blk (by decide) (by decide) e.symm)).trans x0
              have y1 : w5.cell? ⟨gs, 5, none⟩ = some (.slice (some ⟨gc', 0, none⟩) d.A.length cc) := (hgr.cell_far ⟨gs, 5, none⟩ (by simp; omega) (fun e => HPa.out.ne HFM.out HPa.out.blk (by decide) (by decide) e.symm)).trans x1
              have y2 : w5.cell? ⟨gc', f, none⟩ = some (.int .i64 1) := (hgr.cell_far ⟨gc', f, none⟩ (by simp; omega) (fun e => HPa.out.fam.sep (.mem 1) .cls _ _ gc' (by simp) HFM.out HFC.out e.symm rfl)).trans x2
              have y3 : w5.cell? ⟨gm', 1, none⟩ = some (.slice A l.length c) := (hgr.cell_far ⟨gm', 1, none⟩ (by simp; omega) (fun e => HPa.out.fam.sep (.mem 1) .om _ _ gm' (by simp) HFM.out HFO.out e.symm rfl)).trans x3
              have mz : w5.frozen? ⟨gm', 1, none⟩ = false := (hgr.frozen_far ⟨gm', 1, none⟩ (by simp; omega) (fun e => HPa.out.fam.sep (.mem 1) .om _ _ gm' (by simp) HFM.out HFO.out e.symm rfl)).trans (HOBa.out.frozenAt 1)
              have ml : gm' < w5.heap.size := Nat.lt_of_lt_of_le (by simp; omega) hgr.size
              clear hown hgr hat hlt5
              refine hK.out _ _ (⟨y0, y1, y2, y3⟩) (fun hHeld => ?_)
              clear hK K
              try simp only [Act.put]
              refine wpAnyH_take (i := 27) (v := ?_) rfl (by kernel_rfl) (by kernel_rfl) (by kernel_rfl) (fun _ _ _ h => h) (Or.inl ⟨by rfl, ?_⟩) (by assumption) ?_
              rotate_left 1
              · intro w hSw; (try dsimp only at hSw); go_simp; first | done | with_reducible rfl
              try simp only [Act.put]
              refine wpAnyH_done (by kernel_rfl) ?_ _
              clear hHeld
              show Oper.wp _ _ _ _ _ _
              go_simp
              go_wp2_with fail
              go_roundw
              case rel =>
                refine ⟨f + 1, _, by go_num, by omega, ⟨HF.out, ?_, HSQC.out, HPUT.out _, HSQT.out.1, HSQT.out.2.1, HSQT.out.2.2⟩⟩
                show BackIn d (f + 1) 0 sq.B
                rw [HSQB.out]; exact HBN.out
              case measure => simp [intOf]; omega
      · obtain rfl : f = d.A.length := by omega
        have HBA := Lib.hid (HP.out.back.all rfl)
        have hMl : s.M.length = 2 := by
          have h := congrArg List.length HP.out.mem
          rw [List.length_map] at h
          exact h
        obtain ⟨A0, c0, l0, hM0, hf0, hg0, gm', cm, hvm, m1, m2, m3, m4⟩ := HP.out.sw.memRow (c := 0) (by omega)
        obtain ⟨A1, c1, l1, hM1, hf1, hg1, gm'', cm', hvm', n1, n2, n3, n4⟩ := HP.out.sw.memRow (c := 1) (by omega)
        have hge := hvm'.symm.trans hvm
        obtain rfl : gm'' = gm' := by injection hge with h1 _ _; injection h1 with h1; injection h1
        rw [hMl] at hvm
        rw [hvm] at s6
        have hl0 : l0 = accN d d.A.length false := by rw [← hg0, HP.out.mem]; rfl
        have hl1 : l1 = accN d d.A.length true := by rw [← hg1, HP.out.mem]; rfl
        have hn0 : l0.length ≤ 65536 := by rw [hl0]; exact Nat.le_trans (accN_len _ _ _) hA2
        have hn1 : l1.length ≤ 65536 := by rw [hl1]; exact Nat.le_trans (accN_len _ _ _) hA2
        have HTT : Hid ([l0, l1] = accM d d.A.length) := by show _ = _; rw [hl0, hl1]; rfl
        have HF0 := Lib.hid hf0; have HF1 := Lib.hid hf1; have HVM := Lib.hid hvm
        have HRD := Lib.hid HP.out.sw.drew
        have HR0 : Hid (wr.drew.ownsRow W0.heap.size 3 1 (.slice A0 l0.length c0) l0.length (l0.map (Value.int .i64))) := by
          have h := HRD.out.fam.own _ _ HF0.out
          simp only [List.length_map] at h
          exact h
        have HBT : Hid (∀ t r k, s.fam t = some r → r.v.ownBlock = some k → k < wr.drew.heap.size) := fun t r k hr hk => (HRD.out.fam.lt hr hk).2
        have hcel : ∀ w' : World, SW W0 w' d An cn Aa ca gs s → (w'.cell? ⟨gs, 6, none⟩ = some (.slice (some ⟨gm'', 0, none⟩) 2 cm) ∧ w'.cell? ⟨gm'', 0, none⟩ = some (.slice A0 l0.length c0) ∧ w'.cell? ⟨gm'', 1, none⟩ = some (.slice A1 l1.length c1)) ∧ gs < w'.heap.size ∧ gm'' < w'.heap.size := fun w' h => by
          obtain ⟨⟨_, _, _, t6, _⟩, tl⟩ := h.cells
          rw [HVM.out] at t6
          have hfo : s.fam .om = some ⟨22, .slice (some ⟨gm'', 0, none⟩) 2 cm, s.M.map Prod.fst⟩ := by rw [← HVM.out]; rfl
          obtain ⟨g9, c9, e9, u1, _, _, u4⟩ := h.fam.cell hfo (j := 0) (x := .slice A0 l0.length c0) (by rw [List.getElem?_map, hM0]; rfl)
          obtain ⟨g8, c8, e8, w1, _, _, _⟩ := h.fam.cell hfo (j := 1) (x := .slice A1 l1.length c1) (by rw [List.getElem?_map, hM1]; rfl)
          obtain rfl : gm'' = g9 := by injection e9 with h1 _ _; injection h1 with h1; injection h1
          obtain rfl : gm'' = g8 := by injection e8 with h1 _ _; injection h1 with h1; injection h1
          exact ⟨⟨t6, u1, w1⟩, tl, u4⟩
        have HCEL := Lib.hid hcel
        obtain ⟨⟨q6, q0, q1⟩, _⟩ := hcel _ HRD.out
        clear s0 s4 s5 s6 s7 hsl a0 a1 a2 a3 hbl m1 m2 m3 m4 n1 n2 n3 n4 hM0 hf0 hg0 hM1 hf1 hg1 hvm hvm' hge hl0 hl1 hcel hfl
        go_wp2_with fail
        go_upto_region 16 with fail
        refine wp_region_peelF (S := fun w' => w'.cell? ⟨gs, 6, none⟩ = some (.slice (some ⟨gm'', 0, none⟩) 2 cm) ∧ w'.cell? ⟨gm'', 0, none⟩ = some (.slice A0 l0.length c0) ∧ w'.cell? ⟨gm'', 1, none⟩ = some (.slice A1 l1.length c1)) (List.cons_ne_nil _ _) (by kernel_rfl) (by kernel_rfl) (⟨q6, q0, q1⟩) (fun hHeld => ?_)
        simp only [List.dropLast_cons_cons, List.dropLast_singleton, List.length_cons, List.length_nil, Nat.zero_add, Nat.reduceAdd]
        refine wpAnyH_take (i := 0) (v := ?_) rfl (by kernel_rfl) (by kernel_rfl) (by kernel_rfl) (fun _ _ _ h => h) (Or.inl ⟨by rfl, ?_⟩) (by assumption) ?_
        rotate_left 1
        · intro w hSw; (try dsimp only at hSw); go_simp; first | done | with_reducible rfl
        try simp only [Act.put]
        refine wpAnyH_take (i := 1) (v := ?_) rfl (by kernel_rfl) (by kernel_rfl) (by kernel_rfl) (fun _ _ _ h => h) (Or.inl ⟨by rfl, ?_⟩) (by assumption) ?_
        rotate_left 1
        · intro w hSw; (try dsimp only at hSw); go_simp; first | done | with_reducible rfl
        try simp only [Act.put]
        refine wpAnyH_take (i := 2) (v := ?_) rfl (by kernel_rfl) (by kernel_rfl) (by kernel_rfl) (fun _ _ _ h => h) (Or.inl ⟨by rfl, ?_⟩) (by assumption) ?_
        rotate_left 1
        · intro w hSw; (try dsimp only at hSw); go_simp; first | done | with_reducible rfl
        try simp only [Act.put]
        refine wpAnyH_take (i := 3) (v := ?_) rfl (by kernel_rfl) (by kernel_rfl) (by kernel_rfl) (fun _ _ _ h => h) (Or.inl ⟨by rfl, ?_⟩) (by assumption) ?_
        rotate_left 1
        · intro w hSw; (try dsimp only at hSw); go_simp; first | done | with_reducible rfl
        try simp only [Act.put]
        refine wpAnyH_take (i := 4) (v := ?_) rfl (by kernel_rfl) (by kernel_rfl) (by kernel_rfl) (fun _ _ _ h => h) (Or.inl ⟨by rfl, ?_⟩) (by assumption) ?_
        rotate_left 1
        · intro w hSw; (try dsimp only at hSw); go_simp; first | done | with_reducible rfl
        try simp only [Act.put]
        refine wpAnyH_take (i := 5) (v := ?_) rfl (by kernel_rfl) (by kernel_rfl) (by kernel_rfl) (fun _ _ _ h => h) (Or.inl ⟨by rfl, ?_⟩) (by assumption) ?_
        rotate_left 1
        · intro w hSw; (try dsimp only at hSw); go_simp; first | done | with_reducible rfl
        try simp only [Act.put]
        refine wpAnyH_take (i := 6) (v := ?_) rfl (by kernel_rfl) (by kernel_rfl) (by kernel_rfl) (fun _ _ _ h => h) (Or.inl ⟨by rfl, ?_⟩) (by assumption) ?_
        rotate_left 1
        · intro w hSw; (try dsimp only at hSw); go_simp; first | done | with_reducible rfl
        try simp only [Act.put]
        refine wpAnyH_take (i := 8) (v := ?_) rfl (by kernel_rfl) (by kernel_rfl) (by kernel_rfl) (fun _ _ _ h => h) (Or.inl ⟨by rfl, ?_⟩) (by assumption) ?_
        rotate_left 1
        · intro w hSw; (try dsimp only at hSw); go_simp; first | done | with_reducible rfl
        try simp only [Act.put]
        refine wpAnyH_take (i := 9) (v := ?_) rfl (by kernel_rfl) (by kernel_rfl) (by kernel_rfl) (fun _ _ _ h => h) (Or.inl ⟨by rfl, ?_⟩) (by assumption) ?_
        rotate_left 1
        · intro w hSw; (try dsimp only at hSw); go_simp; first | done | with_reducible rfl
        try simp only [Act.put]
        refine wpAnyH_take (i := 10) (v := ?_) rfl (by kernel_rfl) (by kernel_rfl) (by kernel_rfl) (fun _ _ _ h => h) (Or.inl ⟨by rfl, ?_⟩) (by assumption) ?_
        rotate_left 1
        · intro w hSw; (try dsimp only at hSw); go_simp; first | done | with_reducible rfl
        try simp only [Act.put]
        refine wpAnyH_take (i := 11) (v := ?_) rfl (by kernel_rfl) (by kernel_rfl) (by kernel_rfl) (fun _ _ _ h => h) (Or.inl ⟨by rfl, ?_⟩) (by assumption) ?_
        rotate_left 1
        · intro w hSw; (try dsimp only at hSw); go_simp; first | done | with_reducible rfl
        try simp only [Act.put]
        refine wpAnyH_take (i := 12) (v := ?_) rfl (by kernel_rfl) (by kernel_rfl) (by kernel_rfl) (fun _ _ _ h => h) (Or.inl ⟨by rfl, ?_⟩) (by assumption) ?_
        rotate_left 1
        · intro w hSw; (try dsimp only at hSw); go_simp; first | done | with_reducible rfl
        try simp only [Act.put]
        refine wpAnyH_take (i := 13) (v := ?_) rfl (by kernel_rfl) (by kernel_rfl) (by kernel_rfl) (fun _ _ _ h => h) (Or.inl ⟨by rfl, ?_⟩) (by assumption) ?_
        rotate_left 1
        · intro w hSw; (try dsimp only at hSw); go_simp; first | done | with_reducible rfl
        try simp only [Act.put]
        refine wpAnyH_ready (rs := [7]) (by kernel_rfl) (by simp) (AllReadyH.cons rfl (fun K hK => ?_) AllReadyH.nil)
        go_simp
        go_at_call 83
        refine (cloneOwn l0 (.slice A0 l0.length c0) _ W0.heap.size (by omega) HR0.out).mono ?_
        rintro e w7 ⟨B1, b1, rfl, ho1, hb1⟩
        have HR7 := Lib.hid (HRD.out.below hb1)
        have HO1 := Lib.hid ho1
        have HSZ7 : Hid (wr.drew.heap.size ≤ w7.heap.size) := hb1.size
        have HB3 : Hid (∀ k, (Value.slice B1 l0.length b1).ownBlock = some k → k < w7.heap.size) := fun k hk => (ho1.lt k hk).2
        have HRR7 : Hid (w7.ownsRow W0.heap.size 3 1 (.slice A1 l1.length c1) l1.length (l1.map (Value.int .i64))) := by
          have h := HR7.out.fam.own _ _ HF1.out
          simp only [List.length_map] at h
          exact h
        obtain ⟨hk7, _⟩ := HCEL.out _ HR7.out
        clear ho1 hb1
        refine hK.out _ _ (hk7) (fun hHeld => ?_)
        clear hK K
        try simp only [Act.put]
        refine wpAnyH_ready (rs := [14]) (by kernel_rfl) (by simp) (AllReadyH.cons rfl (fun K hK => ?_) AllReadyH.nil)
        go_simp
        go_at_call 83
        refine (cloneOwn l1 (.slice A1 l1.length c1) _ W0.heap.size (by omega) HRR7.out).mono ?_
        rintro e w8 ⟨B2, b2, rfl, ho2, hb2⟩
        have HR8 := Lib.hid (HR7.out.below hb2)
        have HO1' := Lib.hid (own_below HO1.out hb2)
        have HO2 := Lib.hid ho2
        obtain ⟨hk8, hl8s, hl8g⟩ := HCEL.out _ HR8.out
        have HB0 : Hid (W0.heap.size ≤ wr.drew.heap.size) := HRD.out.bel.size
        have hownA := World.ownsRow_lit (base := W0.heap.size) (e := 22) (size := 1) w8 #[.slice B1 l0.length b1, .slice B2 l1.length b2] 2 HR8.out.bel.size (by decide) rfl
        have HF := Lib.hid (HR8.out.todoPush2 (w2 := w8.alloc (.cells #[.slice B1 l0.length b1, .slice B2 l1.length b2] 22)) (A' := some ⟨w8.heap.size, 0, none⟩) (c' := 2) (HO1'.out.mono HB0.out) (HO2.out.mono (Nat.le_trans HB0.out HSZ7.out))
          (fun t r k hr hk e => by have h1 := HBT.out t r k hr hk; have h2 := (HO1'.out.lt k e).1; omega)
          (fun t r k hr hk e => by have h1 := HBT.out t r k hr hk; have h2 := (HO2.out.lt k e).1; have h3 := HSZ7.out; omega)
          (fun k hk e => by have h1 := HB3.out k hk; have h2 := (HO2.out.lt k e).1; omega)
          (by rw [HP.out.todo]; exact hownA) (World.grownBy_alloc _ _ _) (fun k hk => .inr (Nat.le_of_eq (by simpa [Value.ownBlock] using hk))))
        have HT2 : Hid (s.T.length + 2 = 2) := by show _ = _; rw [HP.out.todo]; rfl
        clear ho2 hb2 hownA
        refine hK.out _ _ (hk8) (fun hHeld => ?_)
        clear hK K
        try simp only [Act.put]
        refine wpAnyH_ready (rs := [15]) (by kernel_rfl) (by simp) (AllReadyH.cons rfl (fun K hK => ?_) AllReadyH.nil)
        go_simp
        have z6 : (w8.alloc (.cells #[.slice B1 l0.length b1, .slice B2 l1.length b2] 22)).cell? ⟨gs, 6, none⟩ = some (.slice (some ⟨gm'', 0, none⟩) 2 cm) := (World.cell?_alloc_lt w8 _ ⟨gs, 6, none⟩ hl8s).trans hk8.1
        have z0 : (w8.alloc (.cells #[.slice B1 l0.length b1, .slice B2 l1.length b2] 22)).cell? ⟨gm'', 0, none⟩ = some (.slice A0 l0.length c0) := (World.cell?_alloc_lt w8 _ ⟨gm'', 0, none⟩ hl8g).trans hk8.2.1
        have z1 : (w8.alloc (.cells #[.slice B1 l0.length b1, .slice B2 l1.length b2] 22)).cell? ⟨gm'', 1, none⟩ = some (.slice A1 l1.length c1) := (World.cell?_alloc_lt w8 _ ⟨gm'', 1, none⟩ hl8g).trans hk8.2.2
        have zz : (w8.alloc (.cells #[.slice B1 l0.length b1, .slice B2 l1.length b2] 22)).frozen? ⟨gs, 7, none⟩ = false := (HR8.out.blk.alloc _).frozen 7
        have z7 : (w8.alloc (.cells #[.slice B1 l0.length b1, .slice B2 l1.length b2] 22)).cell? ⟨gs, 7, none⟩ = some s.vt := (HR8.out.alloc _).cells.1.2.2.2.2
        have zl : gs < (w8.alloc (.cells #[.slice B1 l0.length b1, .slice B2 l1.length b2] 22)).heap.size := (HR8.out.alloc _).blk.lt
        generalize w8.alloc (.cells #[.slice B1 l0.length b1, .slice B2 l1.length b2] 22) = w9 at HF z6 z0 z1 z7 zz zl ⊢
        refine hK.out _ _ (⟨z6, z0, z1⟩) (fun hHeld => ?_)
        clear hK K
        try simp only [Act.put]
        refine wpAnyH_take (i := 16) (v := ?_) rfl (by kernel_rfl) (by kernel_rfl) (by kernel_rfl) (fun _ _ _ h => h) (Or.inl ⟨by rfl, ?_⟩) (by assumption) ?_
        rotate_left 1
        · intro w hSw; (try dsimp only at hSw); go_simp; first | done | with_reducible rfl
        try simp only [Act.put]
        refine wpAnyH_take (i := 17) (v := ?_) rfl (by kernel_rfl) (by kernel_rfl) (by kernel_rfl) (fun _ _ _ h => h) (Or.inl ⟨by rfl, ?_⟩) (by assumption) ?_
        rotate_left 1
        · intro w hSw; (try dsimp only at hSw); go_simp; first | done | with_reducible rfl
        try simp only [Act.put]
        refine wpAnyH_done (by kernel_rfl) ?_ _
        clear hHeld
        show Oper.wp _ _ _ _ _ _
        go_simp
        go_wp2_with fail
        have HG := HF.out
        rw [HT2.out] at HG
        go_ret
        exact ⟨gs, _, rfl, HG.rebase HW.out, HBA.out, HP.out.hits, HP.out.cls, HP.out.mem, by show (s.T ++ [(Value.slice B1 l0.length b1, l0), (Value.slice B2 l1.length b2, l1)]).map Prod.snd = _; rw [HP.out.todo]; exact HTT.out⟩
end Go.Proofs.Ytmpcoclgcldclaa
