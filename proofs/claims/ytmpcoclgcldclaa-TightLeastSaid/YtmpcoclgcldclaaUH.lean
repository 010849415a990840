/- Words for the second half of by: the classes that are hit, one by one, are split. -/
import Derived.Test.YtmpcoclgcldclaaUF
namespace Go.Proofs.Ytmpcoclgcldclaa
open Go.RowKit

theorem HitsAre.left {cls Pr : List Int} {H : Int → Option LV} (h : HitsAre cls Pr H) (c : Int) : ((H c).map Prod.fst).isSome = true ↔ c ∈ (hitsL cls Pr).map Prod.fst := by
  rw [hitsL_keys, hitKeys_mem]
  rcases h c with ⟨h1, h2⟩ | ⟨v, h1, h2⟩
  · rw [h1, h2]; simp
  · rw [h1]; simpa using h2
theorem HitsAre.ent {cls Pr : List Int} {H : Int → Option LV} (h : HitsAre cls Pr H) : ∀ p ∈ hitsL cls Pr, ∃ v, H p.1 = some (v, p.2) ∧ ((H p.1).map Prod.fst) = some v ∧ p.2 ≠ [] := by
  intro p hp
  obtain ⟨c, hc, rfl⟩ := List.mem_map.1 hp
  have h3 := hitKeys_mem.1 hc
  rcases h c with ⟨_, h2⟩ | ⟨v, h1, h2⟩
  · exact absurd h2 h3
  · exact ⟨v, h1, by simp [h1], h2⟩
/-- the classes that are still to be looked at -/
structure RInv (d : D) (U : List Int) (x : Int) (f0 : Int → Option Value) (s : SS) (R : List (Int × List Int)) (left : Int → Bool) : Prop where
  left : ∀ c, left c = true ↔ c ∈ R.map Prod.fst
  ent : ∀ p ∈ R, ∃ v, s.H p.1 = some (v, p.2) ∧ f0 p.1 = some v ∧ p.2 ≠ []
  spl : Splits d s.cls (s.M.map Prod.snd) (s.T.map Prod.snd) U x R
section
variable {d : D} {U : List Int} {x c : Int} {f0 : Int → Option Value} {s s' : SS} {R : List (Int × List Int)} {left : Int → Bool} {v : Value} {l : List Int}
theorem RInv.take (h : RInv d U x f0 s R left) (hl : left c = true) (hv : f0 c = some v) : ∃ l R', s.H c = some (v, l) ∧ l ≠ [] ∧ RInv d U x f0 s ((c, l) :: R') left := by
  obtain ⟨p, hp, hpc⟩ := List.mem_map.1 ((h.left c).1 hl)
  obtain ⟨v', h1, h2, h3⟩ := h.ent p hp
  rw [hpc] at h1 h2
  rw [hv] at h2
  obtain rfl := Option.some.inj h2
  have hperm : R.Perm ((c, p.2) :: R.erase p) := by
    have := List.perm_cons_erase hp
    rwa [show p = (c, p.2) from Prod.ext hpc rfl] at this ⊢
  refine ⟨p.2, R.erase p, h1, h3, fun y => ?_, fun q hq => h.ent q (hperm.mem_iff.2 hq), h.spl.perm hperm⟩
  rw [h.left, (hperm.map Prod.fst).mem_iff]
theorem RInv.leftN {R' : List (Int × List Int)} (h : RInv d U x f0 s ((c, l) :: R') left) (y : Int) : (left y && !decide (y = c)) = true ↔ y ∈ R'.map Prod.fst := by
  have hk := (List.nodup_cons.1 h.spl.keys).1
  rw [Bool.and_eq_true, h.left]
  simp only [List.map_cons, List.mem_cons, Bool.not_eq_true', decide_eq_false_iff_not]
  constructor
  · rintro ⟨h1 | h1, h2⟩
    · exact absurd h1 h2
    · exact h1
  · intro h1
    exact ⟨.inr h1, fun e => hk (e ▸ h1)⟩
theorem RInv.skip {R' : List (Int × List Int)} (h : RInv d U x f0 s ((c, l) :: R') left) (hl : l.length = (gM (s.M.map Prod.snd) c.toNat).length) : RInv d U x f0 s R' (fun y => left y && !decide (y = c)) :=
  ⟨h.leftN, fun p hp => h.ent p (by simp [hp]), h.spl.skip hl⟩
theorem RInv.cut {R' : List (Int × List Int)} (h : RInv d U x f0 s ((c, l) :: R') left) (hd : d.Ok) (hx : 0 ≤ x ∧ x < d.K) (h0 : l ≠ []) (hl : l.length ≠ (gM (s.M.map Prod.snd) c.toNat).length)
    (e1 : s'.cls = setAll s.cls l (s.M.map Prod.snd).length) (e2 : s'.M.map Prod.snd = splitM (setAll s.cls l (s.M.map Prod.snd).length) (s.M.map Prod.snd) c.toNat l)
    (e3 : s'.T.map Prod.snd = s.T.map Prod.snd ++ [l, restM (setAll s.cls l (s.M.map Prod.snd).length) (s.M.map Prod.snd).length (gM (s.M.map Prod.snd) c.toNat)]) (e4 : ∀ y, y ≠ c → s'.H y = s.H y) : RInv d U x f0 s' R' (fun y => left y && !decide (y = c)) := by
  refine ⟨h.leftN, fun p hp => ?_, ?_⟩
  · have hk := (List.nodup_cons.1 h.spl.keys).1
    have hne : p.1 ≠ c := fun e => hk (by rw [← e]; exact List.mem_map.2 ⟨p, hp, rfl⟩)
    rw [e4 _ hne]
    exact h.ent p (by simp [hp])
  · rw [e1, e2, e3]
    exact h.spl.cut hd hx h0 hl
theorem leftN_cut {M T : List (List Int)} {M' T' : List (List Int)} {cls' : List Int} (hp : Part d cls' M') (hM : M'.length = M.length + 1) (hT : T'.length = T.length + 2) : leftN d M' T' ≤ leftN d M T := by
  have := hp.fits
  unfold leftN
  omega
theorem restM_filter (cls' : List Int) (next : Int) (m : List Int) : (m.filter fun y => !(gI cls' y.toNat == next)) = restM cls' next m := by
  unfold restM
  congr 1
  funext y
  by_cases e : gI cls' y.toNat = next <;> simp [e]
end
section
variable {w wi : World} {d : D} {An Aa : Option Addr} {cn ca gs : Nat} {s : SS}
/-- the iterator has gone on -/
theorem SW.iter {w2 : World} {gm gi n : Nat} {f : Int → Option Value} {left : Int → Bool} {cnt : Nat} (h : SW w wi d An cn Aa ca gs s) (hr : RngF wi gm gi n (Value.int .i64) f left cnt) (ht : Touch (fun j => j = gi) wi w2) (hgi : w.heap.size ≤ gi) : SW w w2 d An cn Aa ca gs s where
  fam := h.fam.touch ht fun t r k hr' hk e => by
    obtain ⟨cur, hc⟩ := own_heap (h.fam.own t r hr') hk
    exact (hr.ne_cells hc).2 e.symm
  blk := h.blk.touch ht fun e => (hr.ne_cells h.blk).2 e.symm
  bel := h.bel.trans (ht.toBelow h.bel.size fun k hk e => by omega)
  lo := h.lo
/-- a row of the split, where it is not empty -/
theorem SW.hitRow {c : Int} {v : Value} {l : List Int} (h : SW w wi d An cn Aa ca gs s) (hc : s.H c = some (v, l)) : ∃ A cap, v = .slice A l.length cap ∧ s.fam (.hit c) = some ⟨3, .slice A l.length cap, l.map (Value.int .i64)⟩ := by
  have hr : s.fam (.hit c) = some ⟨3, v, l.map (Value.int .i64)⟩ := by simp [SS.fam, hc, rI]
  obtain ⟨A, cap, rfl⟩ := h.fam.form hr
  rw [List.length_map] at hr ⊢
  exact ⟨A, cap, rfl, hr⟩
theorem SW.memRow {c : Nat} (h : SW w wi d An cn Aa ca gs s) (hc : c < s.M.length) : ∃ A cap ms, s.M[c]? = some (.slice A ms.length cap, ms) ∧ s.fam (.mem c) = some ⟨3, .slice A ms.length cap, ms.map (Value.int .i64)⟩ ∧ gM (s.M.map Prod.snd) c = ms ∧
    ∃ go co, s.vm = .slice (some ⟨go, 0, none⟩) s.M.length co ∧ wi.cell? ⟨go, c, none⟩ = some (.slice A ms.length cap) ∧ wi.frozen? ⟨go, c, none⟩ = false ∧ w.heap.size ≤ go ∧ go < wi.heap.size := by
  obtain ⟨p, hp⟩ : ∃ p, s.M[c]? = some p := ⟨_, List.getElem?_eq_getElem hc⟩
  obtain ⟨v, ms⟩ := p
  have hr : s.fam (.mem c) = some ⟨3, v, ms.map (Value.int .i64)⟩ := by simp [SS.fam, hp, rI]
  obtain ⟨A, cap, rfl⟩ := h.fam.form hr
  rw [List.length_map] at hr hp
  have hom : s.fam .om = some ⟨22, s.vm, s.M.map Prod.fst⟩ := rfl
  obtain ⟨go, co, h1, h2, h3, h4, h5⟩ := h.fam.cell hom (j := c) (x := .slice A ms.length cap) (by rw [List.getElem?_map, hp]; rfl)
  rw [List.length_map] at h1
  refine ⟨A, cap, ms, hp, hr, ?_, go, co, h1, h2, h3, h4, h5⟩
  unfold gM
  rw [List.getD_eq_getElem?_getD, List.getElem?_map, hp]
  rfl
theorem SW.noHits (h : SW w wi d An cn Aa ca gs s) : SW w wi d An cn Aa ca gs { s with H := fun _ => none } :=
  h.less (fun t r hr => by cases t <;> first | exact hr | (simp [SS.fam] at hr)) rfl rfl rfl rfl
/-- the closure of by, while the states of a class are cut -/
theorem predsOf {gb gx c nM : Nat} {A : Option Addr} {cap : Nat} {ms : List Int} {next : Int} (h : SW w wi d An cn Aa ca gs s) (hb : Blk wi gb 129 #[.pointer (some ⟨gs, 0, none⟩)]) (hx : Blk wi gx 3 #[.int .i64 next])
    (hm : s.M[c]? = some (.slice A nM cap, ms)) (hcl : s.cls.length = d.A.length) (hr : ∀ y ∈ ms, inR d y) (hne : (Value.slice A nM cap).ownBlock ≠ some gx) :
    ∀ w', Touch (fun k => (Value.slice A nM cap).ownBlock = some k) wi w' → PredsD 129 #[.pointer (some ⟨gb, 0, none⟩), .pointer (some ⟨gx, 0, none⟩)] (fun y => gI s.cls y.toNat == next) w' ms := by
  intro w' ht y hy
  have hyr := hr y hy
  have hmr : s.fam (.mem c) = some (rI (.slice A nM cap, ms)) := by simp [SS.fam, hm]
  have b1 := hb.touch ht (fun e => h.ne hmr hb (by decide) (by decide) e)
  have b2 := hx.touch ht hne
  have b3 := h.blk.touch ht (fun e => h.ne hmr h.blk (by decide) (by decide) e)
  have hcr : s.fam .cls = some ⟨3, s.vc, s.cls.map (Value.int .i64)⟩ := rfl
  unfold inR at hyr
  obtain ⟨gc, cc, hv, hc, _, _, hgl⟩ := h.fam.cell hcr (j := y.toNat) (x := .int .i64 (gI s.cls y.toNat)) (by
    rw [List.getElem?_map, List.getElem?_eq_getElem (by omega)]
    unfold gI
    rw [List.getD_eq_getElem?_getD, List.getElem?_eq_getElem (by omega)]
    rfl)
  have hc' : w'.cell? ⟨gc, y.toNat, none⟩ = some (.int .i64 (gI s.cls y.toNat)) := by
    rw [← hc]
    exact World.cell?_of_block (a := ⟨gc, y.toNat, none⟩) (ht.block gc hgl fun e => h.fam.sep (.mem c) .cls _ _ gc (by simp) hmr hcr e (by show s.vc.ownBlock = _; rw [hv]; rfl))
  rw [List.length_map, hcl] at hv
  refine byPred_any gb gx gs gc d.A.length cc y (gI s.cls y.toNat) next w' (by rw [b1.cell]; rfl) (by rw [b3.cell]; show some s.vc = _; rw [hv]) hyr.1 (by omega) hc' (by rw [b2.cell]; rfl)
end
/-- the split, its box, the map and its iterator -/
structure RW (w wi : World) (d : D) (An : Option Addr) (cn : Nat) (Aa : Option Addr) (ca gs gb gm gi n : Nat) (f0 : Int → Option Value) (left : Int → Bool) (cnt : Nat) (s : SS) : Prop where
  sw : SW w wi d An cn Aa ca gs s
  box : Blk wi gb 129 #[.pointer (some ⟨gs, 0, none⟩)]
  rng : RngF wi gm gi n (Value.int .i64) f0 left cnt
section
variable {w wi w2 : World} {d : D} {An Aa : Option Addr} {cn ca gs gb gm gi n cnt : Nat} {f0 : Int → Option Value} {left : Int → Bool} {s s' : SS}
theorem RW.drew (h : RW w wi d An cn Aa ca gs gb gm gi n f0 left cnt s) : RW w wi.drew d An cn Aa ca gs gb gm gi n f0 left cnt s := ⟨h.sw.drew, h.box.drew, h.rng.drew⟩
theorem RW.below (h : RW w wi d An cn Aa ca gs gb gm gi n f0 left cnt s) (hb : Below wi.heap.size wi w2) : RW w w2 d An cn Aa ca gs gb gm gi n f0 left cnt s := ⟨h.sw.below hb, blk_below h.box hb, h.rng.below hb⟩
theorem RW.alloc (h : RW w wi d An cn Aa ca gs gb gm gi n f0 left cnt s) (o : Obj) : RW w (wi.alloc o) d An cn Aa ca gs gb gm gi n f0 left cnt s := h.below (bel_new wi o)
theorem RW.step (h : RW w wi d An cn Aa ca gs gb gm gi n f0 left cnt s) (hs : SW w w2 d An cn Aa ca gs s') (ht : Touch (fun j => (∃ t r, s.fam t = some r ∧ r.v.ownBlock = some j) ∨ j = gs) wi w2) : RW w w2 d An cn Aa ca gs gb gm gi n f0 left cnt s' where
  sw := hs
  box := h.box.touch ht fun e => by
    rcases e with ⟨t, r, h1, h2⟩ | e
    · exact h.sw.ne h1 h.box (by decide) (by decide) h2
    · have h1 := h.sw.blk
      have h2 := h.box
      unfold Blk at h1 h2
      rw [e, h1] at h2
      injection h2 with h2
      injection h2 with _ h2
      cases h2
  rng := by
    have key : ∀ j, ((∃ t r, s.fam t = some r ∧ r.v.ownBlock = some j) ∨ j = gs) → gm ≠ j ∧ gi ≠ j := fun j e => by
      rcases e with ⟨t, r, h1, h2⟩ | e
      · obtain ⟨cur, hc⟩ := own_heap (h.sw.fam.own t r h1) h2
        exact h.rng.ne_cells hc
      · subst e
        exact h.rng.ne_cells h.sw.blk
    exact h.rng.touch ht (fun e => (key gm e).1 rfl) (fun e => (key gi e).2 rfl)
/-- region 22: a class's states have been cut -/
theorem RW.memCut {c : Nat} {A : Option Addr} {cap : Nat} {l l' : List Int} (h : RW w wi d An cn Aa ca gs gb gm gi n f0 left cnt s) (hc : s.M[c]? = some (.slice A l.length cap, l))
    (ho : w2.ownsRow w.heap.size 3 1 (.slice A l'.length cap) l'.length (l'.map (Value.int .i64))) (ht : Touch (fun k => (Value.slice A l.length cap).ownBlock = some k) wi w2) {g nO co : Nat} (hv : s.vm = .slice (some ⟨g, 0, none⟩) nO co) :
    RW w (w2.setCell ⟨g, c, none⟩ (.slice A l'.length cap)) d An cn Aa ca gs gb gm gi n f0 left cnt { s with M := s.M.set c (.slice A l'.length cap, l') } := by
  have hm : s.fam (.mem c) = some (rI (.slice A l.length cap, l)) := by simp [SS.fam, hc]
  have hom : s.fam .om = some ⟨22, s.vm, s.M.map Prod.fst⟩ := rfl
  refine h.step (h.sw.memCut hc ho ht hv) ((ht.mono fun k _ e => .inl ⟨_, _, hm, e⟩).setCell (p := ⟨g, c, none⟩) (fun _ => .inl ⟨_, _, hom, by rw [hv]; rfl⟩) _)
/-- region 23: the hits have become a class -/
theorem RW.memPush {c : Int} {v : Value} {l : List Int} {g' c' : Nat} (h : RW w wi d An cn Aa ca gs gb gm gi n f0 left cnt s) (hc : s.H c = some (v, l))
    (ho : w2.ownsRow w.heap.size 22 1 (.slice (some ⟨g', 0, none⟩) (s.M.length + 1) c') (s.M.length + 1) (s.M.map Prod.fst ++ [v])) (hg : wi.grownBy w2 s.vm.ownBlock) (hat : s.vm.ownBlock = some g' ∨ g' = wi.heap.size) :
    RW w (w2.setCell ⟨gs, 6, none⟩ (.slice (some ⟨g', 0, none⟩) (s.M.length + 1) c')) d An cn Aa ca gs gb gm gi n f0 left cnt { s with vm := .slice (some ⟨g', 0, none⟩) (s.M.length + 1) c', M := s.M ++ [(v, l)], H := fun x => if x = c then none else s.H x } := by
  have hom : s.fam .om = some ⟨22, s.vm, s.M.map Prod.fst⟩ := rfl
  refine h.step (h.sw.memPush hc ho hg fun k hk => ?_) (((Touch.ofGrown hg).mono fun k _ e => .inl ⟨_, _, hom, e.symm⟩).setCell (p := ⟨gs, 6, none⟩) (fun _ => .inr rfl) _)
  have : g' = k := by simpa [Value.ownBlock] using hk
  subst this
  rcases hat with e | e
  · exact .inl e
  · exact .inr (by omega)
/-- region 24: two rows more to split by -/
theorem RW.todoPush2 {A1 A2 : Option Addr} {c1 c2 g' c' : Nat} {l1 l2 : List Int} {B1 B2 : Nat} (h : RW w wi d An cn Aa ca gs gb gm gi n f0 left cnt s)
    (h1 : wi.ownsRow B1 3 1 (.slice A1 l1.length c1) l1.length (l1.map (Value.int .i64))) (h2 : wi.ownsRow B2 3 1 (.slice A2 l2.length c2) l2.length (l2.map (Value.int .i64)))
    (hB1 : ∀ t r k, s.fam t = some r → r.v.ownBlock = some k → k < B1) (hB2 : B1 ≤ B2) (hB3 : ∀ k, (Value.slice A1 l1.length c1).ownBlock = some k → k < B2) (hB0 : w.heap.size ≤ B1)
    (ho : w2.ownsRow w.heap.size 22 1 (.slice (some ⟨g', 0, none⟩) (s.T.length + 2) c') (s.T.length + 2) (s.T.map Prod.fst ++ [.slice A1 l1.length c1, .slice A2 l2.length c2])) (hg : wi.grownBy w2 s.vt.ownBlock) (hat : s.vt.ownBlock = some g' ∨ g' = wi.heap.size) :
    RW w (w2.setCell ⟨gs, 7, none⟩ (.slice (some ⟨g', 0, none⟩) (s.T.length + 2) c')) d An cn Aa ca gs gb gm gi n f0 left cnt { s with vt := .slice (some ⟨g', 0, none⟩) (s.T.length + 2) c', T := s.T ++ [(.slice A1 l1.length c1, l1), (.slice A2 l2.length c2, l2)] } := by
  have hot : s.fam .ot = some ⟨22, s.vt, s.T.map Prod.fst⟩ := rfl
  refine h.step (h.sw.todoPush2 (h1.mono hB0) (h2.mono (Nat.le_trans hB0 hB2)) (fun t r k hr hk e => ?_) (fun t r k hr hk e => ?_) (fun k hk e => ?_) ho hg fun k hk => ?_) (((Touch.ofGrown hg).mono fun k _ e => .inl ⟨_, _, hot, e.symm⟩).setCell (p := ⟨gs, 7, none⟩) (fun _ => .inr rfl) _)
  · have := hB1 t r k hr hk
    have := (h1.lt k e).1
    omega
  · have := hB1 t r k hr hk
    have := (h2.lt k e).1
    omega
  · have := hB3 k hk
    have := (h2.lt k e).1
    omega
  · have : g' = k := by simpa [Value.ownBlock] using hk
    subst this
    rcases hat with e | e
    · exact .inl e
    · exact .inr (by omega)
end
end Go.Proofs.Ytmpcoclgcldclaa
