/- Words for the memory of tight's split: its rows, no two of them in one block. -/
import Derived.Test.YtmpcoclgcldclaaFam
import Derived.Test.YtmpcoclgcldclaaMap
import Derived.Test.YtmpcoclgcldclaaX
import Derived.Test.YtmpcoclgcldclaaTP
namespace Go.Proofs.Ytmpcoclgcldclaa
open Go.RowKit

/-- the rows of a split: the classes, the outer rows, the inner ones, the hits, the states by which it splits -/
inductive Tg where
  | cls | ob | om | ot | cur
  | bk (p : Nat) | mem (c : Nat) | todo (i : Nat) | hit (c : Int)
deriving DecidableEq
/-- a slice, and the numbers that it holds -/
abbrev LV := Value × List Int
def rI (p : LV) : Row := ⟨3, p.1, p.2.map (Value.int .i64)⟩
structure SS where
  vc : Value
  cls : List Int
  vb : Value
  B : List LV
  vm : Value
  M : List LV
  vt : Value
  T : List LV
  H : Int → Option LV
  cur : Option LV
def SS.fam (s : SS) : Tg → Option Row
  | .cls => some ⟨3, s.vc, s.cls.map (Value.int .i64)⟩
  | .ob => some ⟨22, s.vb, s.B.map Prod.fst⟩
  | .om => some ⟨22, s.vm, s.M.map Prod.fst⟩
  | .ot => some ⟨22, s.vt, s.T.map Prod.fst⟩
  | .cur => s.cur.map rI
  | .bk p => s.B[p]?.map rI
  | .mem c => s.M[c]?.map rI
  | .todo i => s.T[i]?.map rI
  | .hit c => (s.H c).map rI
/-- what lies in memory: the split's variable in block gs, its rows; nothing has turned that was there -/
structure SW (w wi : World) (d : D) (An : Option Addr) (cn : Nat) (Aa : Option Addr) (ca gs : Nat) (s : SS) : Prop where
  fam : Fam wi w.heap.size s.fam
  blk : Blk wi gs 133 #[.int .i64 d.K, .int .i64 d.S, .slice An d.N.length cn, .slice Aa d.A.length ca, s.vb, s.vc, s.vm, s.vt]
  bel : Below w.heap.size w wi
  lo : w.heap.size ≤ gs
section
variable {w wi w2 w3 : World} {d : D} {An Aa : Option Addr} {cn ca gs : Nat} {s s' : SS}
theorem SW.cells (h : SW w wi d An cn Aa ca gs s) : (wi.cell? ⟨gs, 0, none⟩ = some (.int .i64 d.K) ∧ wi.cell? ⟨gs, 4, none⟩ = some s.vb ∧ wi.cell? ⟨gs, 5, none⟩ = some s.vc ∧ wi.cell? ⟨gs, 6, none⟩ = some s.vm ∧ wi.cell? ⟨gs, 7, none⟩ = some s.vt) ∧ gs < wi.heap.size :=
  ⟨⟨by rw [h.blk.cell]; rfl, by rw [h.blk.cell]; rfl, by rw [h.blk.cell]; rfl, by rw [h.blk.cell]; rfl, by rw [h.blk.cell]; rfl⟩, h.blk.lt⟩
theorem SS.fam_ty (s : SS) {t : Tg} {r : Row} (hr : s.fam t = some r) : r.e = 3 ∨ r.e = 22 := by
  cases t <;> simp only [SS.fam] at hr
  · obtain rfl := Option.some.inj hr; exact .inl rfl
  · obtain rfl := Option.some.inj hr; exact .inr rfl
  · obtain rfl := Option.some.inj hr; exact .inr rfl
  · obtain rfl := Option.some.inj hr; exact .inr rfl
  all_goals
    obtain ⟨p, _, rfl⟩ := Option.map_eq_some_iff.1 hr
    exact .inl rfl
/-- no row is a block of another type -/
theorem SW.ne (h : SW w wi d An cn Aa ca gs s) {t : Tg} {r : Row} (hr : s.fam t = some r) {g : Nat} {ty : TypeId} {cs : Array Value} (hg : Blk wi g ty cs) (h3 : ty ≠ 3) (h22 : ty ≠ 22) : r.v.ownBlock ≠ some g :=
  h.fam.ne_blk hr hg (by rcases s.fam_ty hr with e | e <;> rw [e] <;> assumption)
theorem SW.below (h : SW w wi d An cn Aa ca gs s) (hb : Below wi.heap.size wi w2) : SW w w2 d An cn Aa ca gs s := ⟨h.fam.below hb, blk_below h.blk hb, bel_step h.bel hb, h.lo⟩
theorem SW.alloc (h : SW w wi d An cn Aa ca gs s) (o : Obj) : SW w (wi.alloc o) d An cn Aa ca gs s := h.below (bel_new wi o)
theorem SW.drew (h : SW w wi d An cn Aa ca gs s) : SW w wi.drew d An cn Aa ca gs s := ⟨h.fam.drew, h.blk, h.bel.drew, h.lo⟩
theorem SW.drewN (h : SW w wi d An cn Aa ca gs s) (n : Nat) : SW w (wi.drewN n) d An cn Aa ca gs s := ⟨h.fam.drewN n, h.blk, bel_drewN h.bel n, h.lo⟩
/-- fewer rows -/
theorem SW.less (h : SW w wi d An cn Aa ca gs s) (hF : ∀ t r, s'.fam t = some r → s.fam t = some r) (e1 : s'.vb = s.vb) (e2 : s'.vc = s.vc) (e3 : s'.vm = s.vm) (e4 : s'.vt = s.vt) : SW w wi d An cn Aa ca gs s' :=
  ⟨h.fam.pull id hF (fun _ _ _ _ _ _ e => e), by rw [e1, e2, e3, e4]; exact h.blk, h.bel, h.lo⟩
/-- one row has turned; the split's own variable has not -/
theorem SW.put {t : Tg} {r' : Row} (h : SW w wi d An cn Aa ca gs s) (hF : s'.fam t = some r') (hN : ∀ u r, u ≠ t → s'.fam u = some r → s.fam u = some r)
    (ht : Touch (fun k => ∃ r, s.fam t = some r ∧ r.v.ownBlock = some k) wi w2) (ho : w2.ownsRow w.heap.size r'.e 1 r'.v r'.xs.length r'.xs)
    (hat : ∀ k, r'.v.ownBlock = some k → (∃ r, s.fam t = some r ∧ r.v.ownBlock = some k) ∨ wi.heap.size ≤ k)
    (e1 : s'.vb = s.vb) (e2 : s'.vc = s.vc) (e3 : s'.vm = s.vm) (e4 : s'.vt = s.vt) : SW w w2 d An cn Aa ca gs s' where
  fam := h.fam.put hF hN ht ho hat
  blk := by
    rw [e1, e2, e3, e4]
    exact h.blk.touch ht fun ⟨r, h1, h2⟩ => h.ne h1 h.blk (by decide) (by decide) h2
  bel := h.bel.trans (ht.toBelow h.bel.size fun k hk ⟨r, h1, h2⟩ => by have := (h.fam.lt h1 h2).1; omega)
  lo := h.lo
/-- one row of the split's own fields has turned, and its slice is put back into field i -/
theorem SW.putF {t : Tg} {r' : Row} {i : Nat} (h : SW w wi d An cn Aa ca gs s) (hF : s'.fam t = some r') (hN : ∀ u r, u ≠ t → s'.fam u = some r → s.fam u = some r)
    (ht : Touch (fun k => ∃ r, s.fam t = some r ∧ r.v.ownBlock = some k) wi w2) (ho : w2.ownsRow w.heap.size r'.e 1 r'.v r'.xs.length r'.xs)
    (hat : ∀ k, r'.v.ownBlock = some k → (∃ r, s.fam t = some r ∧ r.v.ownBlock = some k) ∨ wi.heap.size ≤ k)
    (hcs : (#[.int .i64 d.K, .int .i64 d.S, .slice An d.N.length cn, .slice Aa d.A.length ca, s.vb, s.vc, s.vm, s.vt] : Array Value).setIfInBounds i r'.v = #[.int .i64 d.K, .int .i64 d.S, .slice An d.N.length cn, .slice Aa d.A.length ca, s'.vb, s'.vc, s'.vm, s'.vt]) : SW w (w2.setCell ⟨gs, i, none⟩ r'.v) d An cn Aa ca gs s' where
  fam := by
    have h1 := h.fam.put hF hN ht ho hat
    have hb := h.blk.touch ht fun ⟨r, h1, h2⟩ => h.ne h1 h.blk (by decide) (by decide) h2
    refine h1.touch (S := fun k => k = gs) ((Touch.refl (fun k => k = gs) w2).setCell (fun _ => rfl) _) fun t r k hr hk e => ?_
    subst e
    exact h1.ne_blk hr hb (by rcases s'.fam_ty hr with e | e <;> rw [e] <;> decide) hk
  blk := by
    have h1 := (h.blk.touch ht fun ⟨r, h1, h2⟩ => h.ne h1 h.blk (by decide) (by decide) h2).set_ i r'.v
    rw [hcs] at h1
    exact h1
  bel := (h.bel.trans (ht.toBelow h.bel.size fun k hk ⟨r, h1, h2⟩ => by have := (h.fam.lt h1 h2).1; omega)).setCell h.lo _
  lo := h.lo

/-- a class has been set -/
theorem SW.setCls {g n c : Nat} (h : SW w wi d An cn Aa ca gs s) (hv : s.vc = .slice (some ⟨g, 0, none⟩) n c) (j : Nat) (x : Int) :
    SW w (wi.setCell ⟨g, j, none⟩ (.int .i64 x)) d An cn Aa ca gs { s with cls := s.cls.set j x } := by
  have hr : s.fam .cls = some ⟨3, .slice (some ⟨g, 0, none⟩) n c, s.cls.map (Value.int .i64)⟩ := by rw [← hv]; rfl
  have ho := h.fam.own _ _ hr
  have hn : n = (s.cls.map (Value.int .i64)).length := by
    obtain ⟨A, c', e2⟩ := own_form ho
    simp only at e2
    injection e2
  refine h.put (t := .cls) (r' := ⟨3, s.vc, (s.cls.set j x).map (Value.int .i64)⟩) rfl (fun u r hu hr => ?_) ((Touch.refl _ wi).setCell (fun _ => ⟨_, hr, rfl⟩) _) ?_ (fun k hk => .inl ⟨_, hr, by rw [hv] at hk; exact hk⟩) rfl rfl rfl rfl
  · cases u <;> first | exact hr | exact absurd rfl hu
  · simp only [hv, List.map_set, List.length_set]
    subst hn
    exact (ho.stored j _).1
/-- a class has been hit once more -/
theorem SW.hitPut {c : Int} {v : Value} {xs : List Int} {q : Int} {A' : Option Addr} {c' : Nat} (h : SW w wi d An cn Aa ca gs s) (hc : s.H c = some (v, xs) ∨ (s.H c = none ∧ v.ownBlock = none))
    (ho : w2.ownsRow w.heap.size 3 1 (.slice A' (xs.length + 1) c') (xs.length + 1) (xs.map (Value.int .i64) ++ [.int .i64 q])) (hg : wi.grownBy w2 v.ownBlock)
    (hat : (Value.slice A' (xs.length + 1) c').ownBlock = v.ownBlock ∨ (Value.slice A' (xs.length + 1) c').ownBlock = some wi.heap.size) :
    SW w w2 d An cn Aa ca gs { s with H := fun x => if x = c then some (.slice A' (xs.length + 1) c', xs ++ [q]) else s.H x } := by
  have hF : ∀ k, v.ownBlock = some k → ∃ r, s.fam (.hit c) = some r ∧ r.v.ownBlock = some k := fun k hk => by
    rcases hc with e | ⟨_, e⟩
    · exact ⟨rI (v, xs), by simp [SS.fam, e], hk⟩
    · rw [e] at hk; cases hk
  refine h.put (t := .hit c) (r' := rI (.slice A' (xs.length + 1) c', xs ++ [q])) (by simp [SS.fam]) (fun u r hu hr => ?_) ((Touch.ofGrown hg).mono fun k _ e => hF k e.symm) ?_ (fun k hk => ?_) rfl rfl rfl rfl
  · cases u with
    | hit x =>
      have hx : x ≠ c := fun e => hu (by rw [e])
      simpa [SS.fam, hx] using hr
    | _ => exact hr
  · simp only [rI, List.map_append, List.length_append, List.length_map, List.map_cons, List.map_nil, List.length_cons, List.length_nil]
    exact ho
  · rcases hat with e | e
    · exact .inl (hF k (by rw [← e]; exact hk))
    · right
      have : (Value.slice A' (xs.length + 1) c').ownBlock = some k := hk
      rw [e] at this
      injection this with this
      omega
/-- a class's states have been cut, where its slice lies -/
theorem SW.memCut {c : Nat} {A : Option Addr} {cap : Nat} {l l' : List Int} (h : SW w wi d An cn Aa ca gs s) (hc : s.M[c]? = some (.slice A l.length cap, l))
    (ho : w2.ownsRow w.heap.size 3 1 (.slice A l'.length cap) l'.length (l'.map (Value.int .i64))) (ht : Touch (fun k => (Value.slice A l.length cap).ownBlock = some k) wi w2)
    {g n co : Nat} (hv : s.vm = .slice (some ⟨g, 0, none⟩) n co) :
    SW w (w2.setCell ⟨g, c, none⟩ (.slice A l'.length cap)) d An cn Aa ca gs { s with M := s.M.set c (.slice A l'.length cap, l') } := by
  have hcl := (List.getElem?_eq_some_iff.1 hc).1
  have hm : s.fam (.mem c) = some (rI (.slice A l.length cap, l)) := by simp [SS.fam, hc]
  have hom : s.fam .om = some ⟨22, .slice (some ⟨g, 0, none⟩) n co, s.M.map Prod.fst⟩ := by rw [← hv]; rfl
  have hb2 : (Value.slice A l'.length cap).ownBlock = (Value.slice A l.length cap).ownBlock := by cases A <;> rfl
  -- first the inner row, then the outer one's cell
  have f1 : Fam w2 w.heap.size (fun t => if t = .mem c then some (rI (.slice A l'.length cap, l')) else s.fam t) := by
    refine h.fam.put (t := .mem c) (r' := rI (.slice A l'.length cap, l')) (by simp) (fun u r hu hr => by simpa [hu] using hr) (ht.mono fun k _ e => ⟨_, hm, e⟩) ?_ (fun k hk => .inl ⟨_, hm, ?_⟩)
    · simp only [rI, List.length_map]; exact ho
    · show (Value.slice A l.length cap).ownBlock = some k
      rw [← hb2]; exact hk
  have hne : (Value.slice A l.length cap).ownBlock ≠ some g := fun e => h.fam.sep (.mem c) .om _ _ g (by simp) hm hom e rfl
  have f2 : Fam (w2.setCell ⟨g, c, none⟩ (.slice A l'.length cap)) w.heap.size ({ s with M := s.M.set c (.slice A l'.length cap, l') } : SS).fam := by
    refine f1.set (t := .om) (e := 22) (g := g) (n := n) (c := co) (xs := s.M.map Prod.fst) (by simpa using hom) c _ (by simp only [SS.fam, hv, List.map_set]) fun u r hu hr => ?_
    cases u with
    | mem x =>
      by_cases e : x = c
      · subst e
        simp only [SS.fam, List.getElem?_set_self hcl] at hr
        simpa using hr
      · have : (Tg.mem x) ≠ .mem c := fun e2 => e (by injection e2)
        simp only [SS.fam, List.getElem?_set_ne (Ne.symm e)] at hr
        simpa [this, SS.fam] using hr
    | om => exact absurd rfl hu
    | _ => simpa [SS.fam] using hr
  have hb1 : Blk w2 gs 133 #[.int .i64 d.K, .int .i64 d.S, .slice An d.N.length cn, .slice Aa d.A.length ca, s.vb, s.vc, s.vm, s.vt] := h.blk.touch ht fun e => h.ne hm h.blk (by decide) (by decide) e
  have hgs : gs ≠ g := fun e => h.ne hom h.blk (by decide) (by decide) (by rw [e]; rfl)
  exact ⟨f2, hb1.far hgs _, (h.bel.trans (ht.toBelow h.bel.size fun k hk e => by have := (h.fam.lt hm e).1; omega)).setCell (p := ⟨g, c, none⟩) (h.fam.lt hom rfl).1 _, h.lo⟩
/-- the hits of a class have become a class -/
theorem SW.memPush {c : Int} {v : Value} {l : List Int} {A' : Option Addr} {c' : Nat} (h : SW w wi d An cn Aa ca gs s) (hc : s.H c = some (v, l))
    (ho : w2.ownsRow w.heap.size 22 1 (.slice A' (s.M.length + 1) c') (s.M.length + 1) (s.M.map Prod.fst ++ [v])) (hg : wi.grownBy w2 s.vm.ownBlock)
    (hat : ∀ k, (Value.slice A' (s.M.length + 1) c').ownBlock = some k → s.vm.ownBlock = some k ∨ wi.heap.size ≤ k) :
    SW w (w2.setCell ⟨gs, 6, none⟩ (.slice A' (s.M.length + 1) c')) d An cn Aa ca gs { s with vm := .slice A' (s.M.length + 1) c', M := s.M ++ [(v, l)], H := fun x => if x = c then none else s.H x } := by
  -- the hits by their new name
  have h0 : SW w wi d An cn Aa ca gs s := h
  have f0 : Fam wi w.heap.size (fun t => if t = .mem s.M.length then some (rI (v, l)) else if t = .hit c then none else s.fam t) := by
    refine h.fam.pull (fun t => if t = .mem s.M.length then .hit c else t) (fun t r hr => ?_) (fun t t' r r' hr hr' e => ?_)
    · by_cases e : t = .mem s.M.length
      · simp only [e, if_true] at hr ⊢
        rw [← hr]; simp [SS.fam, hc]
      · simp only [e, if_false] at hr ⊢
        by_cases e2 : t = .hit c
        · simp [e2] at hr
        · simpa [e2] using hr
    · by_cases e1 : t = .mem s.M.length
      · by_cases e2 : t' = .mem s.M.length
        · rw [e1, e2]
        · simp only [e1, e2, if_true, if_false] at e hr'
          rw [← e] at hr'
          simp at hr'
      · by_cases e2 : t' = .mem s.M.length
        · simp only [e1, e2, if_true, if_false] at e hr
          rw [e] at hr
          simp at hr
        · simpa only [e1, e2, if_false] using e
  have hom : s.fam .om = some ⟨22, s.vm, s.M.map Prod.fst⟩ := rfl
  have f1 : Fam w2 w.heap.size ({ s with vm := .slice A' (s.M.length + 1) c', M := s.M ++ [(v, l)], H := fun x => if x = c then none else s.H x } : SS).fam := by
    refine f0.put (t := .om) (r' := ⟨22, .slice A' (s.M.length + 1) c', (s.M ++ [(v, l)]).map Prod.fst⟩) rfl (fun u r hu hr => ?_) ((Touch.ofGrown hg).mono fun k _ e => ⟨⟨22, s.vm, s.M.map Prod.fst⟩, by simp [SS.fam], e.symm⟩) ?_ (fun k hk => (hat k hk).imp (fun e => ⟨⟨22, s.vm, s.M.map Prod.fst⟩, by simp [SS.fam], e⟩) id)
    · cases u with
      | mem x =>
        simp only [SS.fam] at hr ⊢
        by_cases e : x = s.M.length
        · subst e
          rw [List.getElem?_append_right (Nat.le_refl _)] at hr
          simp only [if_true]
          simpa using hr
        · have hx : x < s.M.length := by
            obtain ⟨p, hp, _⟩ := Option.map_eq_some_iff.1 hr
            have := (List.getElem?_eq_some_iff.1 hp).1
            simp at this
            omega
          rw [List.getElem?_append_left hx] at hr
          have e2 : (Tg.mem x) ≠ .mem s.M.length := fun e2 => e (by injection e2)
          simpa [e2] using hr
      | hit x =>
        simp only [SS.fam] at hr ⊢
        by_cases e : x = c
        · subst e; simp at hr
        · have e2 : (Tg.hit x) ≠ .hit c := fun e2 => e (by injection e2)
          simpa [e2, e] using hr
      | om => exact absurd rfl hu
      | _ => simpa [SS.fam] using hr
    · simp only [List.map_append, List.length_append, List.length_map, List.map_cons, List.map_nil, List.length_cons, List.length_nil]
      exact ho
  have hb := h.blk.touch (Touch.ofGrown hg) fun e => h.ne hom h.blk (by decide) (by decide) e.symm
  refine ⟨f1.touch (S := fun k => k = gs) ((Touch.refl (fun k => k = gs) w2).setCell (fun _ => rfl) _) fun t r k hr hk e => ?_, hb.set_ 6 _, (h.bel.trans ((Touch.ofGrown hg).toBelow h.bel.size fun k hk e => by have := (h.fam.lt hom e.symm).1; omega)).setCell h.lo _, h.lo⟩
  subst e
  exact f1.ne_blk hr hb (by rcases SS.fam_ty _ hr with e | e <;> rw [e] <;> decide) hk
/-- two rows more by which it is to be split -/
theorem SW.todoPush2 {A1 A2 A' : Option Addr} {c1 c2 c' : Nat} {l1 l2 : List Int} (h : SW w wi d An cn Aa ca gs s)
    (h1 : wi.ownsRow w.heap.size 3 1 (.slice A1 l1.length c1) l1.length (l1.map (Value.int .i64))) (h2 : wi.ownsRow w.heap.size 3 1 (.slice A2 l2.length c2) l2.length (l2.map (Value.int .i64)))
    (n1 : ∀ t r k, s.fam t = some r → r.v.ownBlock = some k → (Value.slice A1 l1.length c1).ownBlock ≠ some k) (n2 : ∀ t r k, s.fam t = some r → r.v.ownBlock = some k → (Value.slice A2 l2.length c2).ownBlock ≠ some k)
    (n3 : ∀ k, (Value.slice A1 l1.length c1).ownBlock = some k → (Value.slice A2 l2.length c2).ownBlock ≠ some k)
    (ho : w2.ownsRow w.heap.size 22 1 (.slice A' (s.T.length + 2) c') (s.T.length + 2) (s.T.map Prod.fst ++ [.slice A1 l1.length c1, .slice A2 l2.length c2])) (hg : wi.grownBy w2 s.vt.ownBlock)
    (hat : ∀ k, (Value.slice A' (s.T.length + 2) c').ownBlock = some k → s.vt.ownBlock = some k ∨ wi.heap.size ≤ k) :
    SW w (w2.setCell ⟨gs, 7, none⟩ (.slice A' (s.T.length + 2) c')) d An cn Aa ca gs { s with vt := .slice A' (s.T.length + 2) c', T := s.T ++ [(.slice A1 l1.length c1, l1), (.slice A2 l2.length c2, l2)] } := by
  let G : Tg → Option Row := fun t => if t = .todo s.T.length then some (rI (.slice A1 l1.length c1, l1)) else if t = .todo (s.T.length + 1) then some (rI (.slice A2 l2.length c2, l2)) else s.fam t
  have hG0 : ∀ t, t ≠ .todo s.T.length → t ≠ .todo (s.T.length + 1) → G t = s.fam t := fun t e1 e2 => by simp [G, e1, e2]
  have hG1 : G (.todo s.T.length) = some (rI (.slice A1 l1.length c1, l1)) := by simp [G]
  have hG2 : G (.todo (s.T.length + 1)) = some (rI (.slice A2 l2.length c2, l2)) := by
    have : (Tg.todo (s.T.length + 1)) ≠ .todo s.T.length := fun e => by injection e with e; omega
    simp [G, this]
  have f0 : Fam wi w.heap.size G := by
    refine ⟨fun t r hr => ?_, fun t t' r r' k hne hr hr' hk hk' => ?_⟩
    · by_cases e1 : t = .todo s.T.length
      · subst e1
        rw [hG1] at hr
        obtain rfl := Option.some.inj hr
        simp only [rI, List.length_map]; exact h1
      · by_cases e2 : t = .todo (s.T.length + 1)
        · subst e2
          rw [hG2] at hr
          obtain rfl := Option.some.inj hr
          simp only [rI, List.length_map]; exact h2
        · rw [hG0 t e1 e2] at hr
          exact h.fam.own t r hr
    · by_cases e1 : t = .todo s.T.length
      · subst e1
        rw [hG1] at hr
        obtain rfl := Option.some.inj hr
        by_cases e2 : t' = .todo (s.T.length + 1)
        · subst e2
          rw [hG2] at hr'
          obtain rfl := Option.some.inj hr'
          exact n3 k hk hk'
        · rw [hG0 t' (Ne.symm hne) e2] at hr'
          exact n1 t' r' k hr' hk' hk
      · by_cases e2 : t = .todo (s.T.length + 1)
        · subst e2
          rw [hG2] at hr
          obtain rfl := Option.some.inj hr
          by_cases e3 : t' = .todo s.T.length
          · subst e3
            rw [hG1] at hr'
            obtain rfl := Option.some.inj hr'
            exact n3 k hk' hk
          · rw [hG0 t' e3 (Ne.symm hne)] at hr'
            exact n2 t' r' k hr' hk' hk
        · rw [hG0 t e1 e2] at hr
          by_cases e3 : t' = .todo s.T.length
          · subst e3
            rw [hG1] at hr'
            obtain rfl := Option.some.inj hr'
            exact n1 t r k hr hk hk'
          · by_cases e4 : t' = .todo (s.T.length + 1)
            · subst e4
              rw [hG2] at hr'
              obtain rfl := Option.some.inj hr'
              exact n2 t r k hr hk hk'
            · rw [hG0 t' e3 e4] at hr'
              exact h.fam.sep t t' r r' k hne hr hr' hk hk'
  have hot : s.fam .ot = some ⟨22, s.vt, s.T.map Prod.fst⟩ := rfl
  have hGt : G .ot = some ⟨22, s.vt, s.T.map Prod.fst⟩ := by rw [hG0 .ot (by simp) (by simp)]; rfl
  have f1 : Fam w2 w.heap.size ({ s with vt := .slice A' (s.T.length + 2) c', T := s.T ++ [(.slice A1 l1.length c1, l1), (.slice A2 l2.length c2, l2)] } : SS).fam := by
    refine f0.put (t := .ot) (r' := ⟨22, .slice A' (s.T.length + 2) c', (s.T ++ [(Value.slice A1 l1.length c1, l1), (Value.slice A2 l2.length c2, l2)]).map Prod.fst⟩) rfl (fun u r hu hr => ?_) ((Touch.ofGrown hg).mono fun k _ e => ⟨_, hGt, e.symm⟩) ?_ (fun k hk => (hat k hk).imp (fun e => ⟨_, hGt, e⟩) id)
    · cases u with
      | todo x =>
        simp only [SS.fam] at hr
        by_cases e : x = s.T.length
        · subst e
          rw [List.getElem?_append_right (Nat.le_refl _)] at hr
          rw [hG1]
          simpa using hr
        · by_cases e2 : x = s.T.length + 1
          · subst e2
            rw [List.getElem?_append_right (by omega), show s.T.length + 1 - s.T.length = 1 by omega] at hr
            rw [hG2]
            simpa using hr
          · have hx : x < s.T.length := by
              obtain ⟨p, hp, _⟩ := Option.map_eq_some_iff.1 hr
              have := (List.getElem?_eq_some_iff.1 hp).1
              simp at this
              omega
            rw [List.getElem?_append_left hx] at hr
            rw [hG0 _ (fun e3 => e (by injection e3)) (fun e3 => e2 (by injection e3))]
            exact hr
      | ot => exact absurd rfl hu
      | _ => rw [hG0 _ (by simp) (by simp)]; exact hr
    · simp only [List.map_append, List.length_append, List.length_map, List.map_cons, List.map_nil, List.length_cons, List.length_nil]
      exact ho
  have hb := h.blk.touch (Touch.ofGrown hg) fun e => h.ne hot h.blk (by decide) (by decide) e.symm
  refine ⟨f1.touch (S := fun k => k = gs) ((Touch.refl (fun k => k = gs) w2).setCell (fun _ => rfl) _) fun t r k hr hk e => ?_, hb.set_ 7 _, (h.bel.trans ((Touch.ofGrown hg).toBelow h.bel.size fun k hk e => by have := (h.fam.lt hot e.symm).1; omega)).setCell h.lo _, h.lo⟩
  subst e
  exact f1.ne_blk hr hb (by rcases SS.fam_ty _ hr with e | e <;> rw [e] <;> decide) hk
end
end Go.Proofs.Ytmpcoclgcldclaa
