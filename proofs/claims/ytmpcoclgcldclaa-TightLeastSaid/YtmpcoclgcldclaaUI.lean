/- Words for the memory of prepared and classes: the first rows, a row that grows where its slice lies, the last row taken off. -/
import Derived.Test.YtmpcoclgcldclaaUC
import Derived.Test.YtmpcoclgcldclaaUD
namespace Go.Proofs.Ytmpcoclgcldclaa
open Go.RowKit

section
variable {w wi w2 : World} {d : D} {An Aa : Option Addr} {cn ca gs : Nat} {s s' : SS}
/-- one more comes to a state -/
theorem SW.backPush {p : Nat} {A A' : Option Addr} {c c' : Nat} {l : List Int} {q : Int} (h : SW w wi d An cn Aa ca gs s) (hc : s.B[p]? = some (.slice A l.length c, l))
    (ho : w2.ownsRow w.heap.size 3 1 (.slice A' (l.length + 1) c') (l.length + 1) (l.map (Value.int .i64) ++ [.int .i64 q])) (hg : wi.grownBy w2 (Value.slice A l.length c).ownBlock)
    (hat : (Value.slice A' (l.length + 1) c').ownBlock = (Value.slice A l.length c).ownBlock ∨ (Value.slice A' (l.length + 1) c').ownBlock = some wi.heap.size)
    {g n co : Nat} (hv : s.vb = .slice (some ⟨g, 0, none⟩) n co) :
    SW w (w2.setCell ⟨g, p, none⟩ (.slice A' (l.length + 1) c')) d An cn Aa ca gs { s with B := s.B.set p (.slice A' (l.length + 1) c', l ++ [q]) } := by
  have hpl := (List.getElem?_eq_some_iff.1 hc).1
  have hm : s.fam (.bk p) = some (rI (.slice A l.length c, l)) := by simp [SS.fam, hc]
  have hom : s.fam .ob = some ⟨22, .slice (some ⟨g, 0, none⟩) n co, s.B.map Prod.fst⟩ := by rw [← hv]; rfl
  have ht := Touch.ofGrown hg
  have f1 : Fam w2 w.heap.size (fun t => if t = .bk p then some (rI (.slice A' (l.length + 1) c', l ++ [q])) else s.fam t) := by
    refine h.fam.put (t := .bk p) (r' := rI (.slice A' (l.length + 1) c', l ++ [q])) (by simp) (fun u r hu hr => by simpa [hu] using hr) (ht.mono fun k _ e => ⟨_, hm, e.symm⟩) ?_ (fun k hk => ?_)
    · simp only [rI, List.map_append, List.length_append, List.length_map, List.map_cons, List.map_nil, List.length_cons, List.length_nil]; exact ho
    · have hk' : (Value.slice A' (l.length + 1) c').ownBlock = some k := hk
      rcases hat with e | e
      · exact .inl ⟨_, hm, by rw [← hk', e]; rfl⟩
      · right; rw [e] at hk'; injection hk' with hk'; omega
  have f2 : Fam (w2.setCell ⟨g, p, none⟩ (.slice A' (l.length + 1) c')) w.heap.size ({ s with B := s.B.set p (.slice A' (l.length + 1) c', l ++ [q]) } : SS).fam := by
    refine f1.set (t := .ob) (e := 22) (g := g) (n := n) (c := co) (xs := s.B.map Prod.fst) (by simpa using hom) p _ (by simp only [SS.fam, hv, List.map_set]) fun u r hu hr => ?_
    cases u with
    | bk x =>
      by_cases e : x = p
      · subst e
        simp only [SS.fam, List.getElem?_set_self hpl] at hr
        simpa using hr
      · have : (Tg.bk x) ≠ .bk p := fun e2 => e (by injection e2)
        simp only [SS.fam, List.getElem?_set_ne (Ne.symm e)] at hr
        simpa [this, SS.fam] using hr
    | ob => exact absurd rfl hu
    | _ => simpa [SS.fam] using hr
  have hb1 : Blk w2 gs 133 #[.int .i64 d.K, .int .i64 d.S, .slice An d.N.length cn, .slice Aa d.A.length ca, s.vb, s.vc, s.vm, s.vt] := h.blk.touch ht fun e => h.ne hm h.blk (by decide) (by decide) e.symm
  have hgs : gs ≠ g := fun e => h.ne hom h.blk (by decide) (by decide) (by rw [e]; rfl)
  exact ⟨f2, hb1.far hgs _, (h.bel.trans (ht.toBelow h.bel.size fun k hk e => by have := (h.fam.lt hm e.symm).1; omega)).setCell (p := ⟨g, p, none⟩) (h.fam.lt hom rfl).1 _, h.lo⟩
/-- one more state in a class -/
theorem SW.memApp {p : Nat} {A A' : Option Addr} {c c' : Nat} {l : List Int} {q : Int} (h : SW w wi d An cn Aa ca gs s) (hc : s.M[p]? = some (.slice A l.length c, l))
    (ho : w2.ownsRow w.heap.size 3 1 (.slice A' (l.length + 1) c') (l.length + 1) (l.map (Value.int .i64) ++ [.int .i64 q])) (hg : wi.grownBy w2 (Value.slice A l.length c).ownBlock)
    (hat : (Value.slice A' (l.length + 1) c').ownBlock = (Value.slice A l.length c).ownBlock ∨ (Value.slice A' (l.length + 1) c').ownBlock = some wi.heap.size)
    {g n co : Nat} (hv : s.vm = .slice (some ⟨g, 0, none⟩) n co) :
    SW w (w2.setCell ⟨g, p, none⟩ (.slice A' (l.length + 1) c')) d An cn Aa ca gs { s with M := s.M.set p (.slice A' (l.length + 1) c', l ++ [q]) } := by
  have hpl := (List.getElem?_eq_some_iff.1 hc).1
  have hm : s.fam (.mem p) = some (rI (.slice A l.length c, l)) := by simp [SS.fam, hc]
  have hom : s.fam .om = some ⟨22, .slice (some ⟨g, 0, none⟩) n co, s.M.map Prod.fst⟩ := by rw [← hv]; rfl
  have ht := Touch.ofGrown hg
  have f1 : Fam w2 w.heap.size (fun t => if t = .mem p then some (rI (.slice A' (l.length + 1) c', l ++ [q])) else s.fam t) := by
    refine h.fam.put (t := .mem p) (r' := rI (.slice A' (l.length + 1) c', l ++ [q])) (by simp) (fun u r hu hr => by simpa [hu] using hr) (ht.mono fun k _ e => ⟨_, hm, e.symm⟩) ?_ (fun k hk => ?_)
    · simp only [rI, List.map_append, List.length_append, List.length_map, List.map_cons, List.map_nil, List.length_cons, List.length_nil]; exact ho
    · have hk' : (Value.slice A' (l.length + 1) c').ownBlock = some k := hk
      rcases hat with e | e
      · exact .inl ⟨_, hm, by rw [← hk', e]; rfl⟩
      · right; rw [e] at hk'; injection hk' with hk'; omega
  have f2 : Fam (w2.setCell ⟨g, p, none⟩ (.slice A' (l.length + 1) c')) w.heap.size ({ s with M := s.M.set p (.slice A' (l.length + 1) c', l ++ [q]) } : SS).fam := by
    refine f1.set (t := .om) (e := 22) (g := g) (n := n) (c := co) (xs := s.M.map Prod.fst) (by simpa using hom) p _ (by simp only [SS.fam, hv, List.map_set]) fun u r hu hr => ?_
    cases u with
    | mem x =>
      by_cases e : x = p
      · subst e
        simp only [SS.fam, List.getElem?_set_self hpl] at hr
        simpa using hr
      · have : (Tg.mem x) ≠ .mem p := fun e2 => e (by injection e2)
        simp only [SS.fam, List.getElem?_set_ne (Ne.symm e)] at hr
        simpa [this, SS.fam] using hr
    | om => exact absurd rfl hu
    | _ => simpa [SS.fam] using hr
  have hb1 : Blk w2 gs 133 #[.int .i64 d.K, .int .i64 d.S, .slice An d.N.length cn, .slice Aa d.A.length ca, s.vb, s.vc, s.vm, s.vt] := h.blk.touch ht fun e => h.ne hm h.blk (by decide) (by decide) e.symm
  have hgs : gs ≠ g := fun e => h.ne hom h.blk (by decide) (by decide) (by rw [e]; rfl)
  exact ⟨f2, hb1.far hgs _, (h.bel.trans (ht.toBelow h.bel.size fun k hk e => by have := (h.fam.lt hm e.symm).1; omega)).setCell (p := ⟨g, p, none⟩) (h.fam.lt hom rfl).1 _, h.lo⟩
/-- the last row by which it is to be split is taken off -/
theorem SW.pop {g n c : Nat} {T : List LV} {p : LV} (h : SW w wi d An cn Aa ca gs s) (hv : s.vt = .slice (some ⟨g, 0, none⟩) n c) (hT : s.T = T ++ [p]) :
    SW w (wi.setCell ⟨gs, 7, none⟩ (.slice (some ⟨g, 0, none⟩) T.length c)) d An cn Aa ca gs { s with vt := .slice (some ⟨g, 0, none⟩) T.length c, T := T, cur := some p } := by
  have hot : s.fam .ot = some ⟨22, .slice (some ⟨g, 0, none⟩) n c, s.T.map Prod.fst⟩ := by rw [← hv]; rfl
  have ho := h.fam.own _ _ hot
  have hn : n = (s.T.map Prod.fst).length := by
    obtain ⟨A, c', e2⟩ := own_form ho
    simp only at e2
    injection e2
  have hlen : s.T.length = T.length + 1 := by rw [hT]; simp
  have hp : s.T[T.length]? = some p := by rw [hT, List.getElem?_append_right (Nat.le_refl _)]; simp
  have f0 : Fam wi w.heap.size (fun t => if t = .cur then some (rI p) else if t = .todo T.length then none else s.fam t) := by
    refine h.fam.pull (fun t => if t = .cur then .todo T.length else t) (fun t r hr => ?_) (fun t t' r r' hr hr' e => ?_)
    · by_cases e : t = .cur
      · simp only [e, if_true] at hr ⊢
        rw [← hr]; simp [SS.fam, hp]
      · simp only [e, if_false] at hr ⊢
        by_cases e2 : t = .todo T.length
        · simp [e2] at hr
        · simpa [e2] using hr
    · by_cases e1 : t = .cur
      · by_cases e2 : t' = .cur
        · rw [e1, e2]
        · simp only [e1, e2, if_true, if_false] at e hr'
          rw [← e] at hr'
          simp at hr'
      · by_cases e2 : t' = .cur
        · simp only [e1, e2, if_true, if_false] at e hr
          rw [e] at hr
          simp at hr
        · simpa only [e1, e2, if_false] using e
  have f1 : Fam wi w.heap.size ({ s with vt := .slice (some ⟨g, 0, none⟩) T.length c, T := T, cur := some p } : SS).fam := by
    refine f0.put (t := .ot) (r' := ⟨22, .slice (some ⟨g, 0, none⟩) T.length c, T.map Prod.fst⟩) rfl (fun u r hu hr => ?_) (Touch.refl _ wi) ?_ (fun k hk => .inl ⟨⟨22, .slice (some ⟨g, 0, none⟩) n c, s.T.map Prod.fst⟩, by simp [← hv, SS.fam], hk⟩)
    · cases u with
      | todo x =>
        simp only [SS.fam] at hr ⊢
        have hx : x < T.length := by
          obtain ⟨q, hq, _⟩ := Option.map_eq_some_iff.1 hr
          exact (List.getElem?_eq_some_iff.1 hq).1
        have e2 : (Tg.todo x) ≠ .todo T.length := fun e2 => by injection e2 with e2; omega
        rw [hT, List.getElem?_append_left hx]
        simpa [e2] using hr
      | cur => simpa [SS.fam] using hr
      | ot => exact absurd rfl hu
      | _ => simpa [SS.fam] using hr
    · have h1 := own_cut1 (m := T.length) (xs := s.T.map Prod.fst) (by rw [← hn] at ho; exact ho) (by rw [hn, List.length_map]; omega)
      have e : (s.T.map Prod.fst).take T.length = T.map Prod.fst := by
        rw [hT, List.map_append, List.take_append_of_le_length (by simp), List.take_of_length_le (by simp)]
      rw [e] at h1
      simp only [List.length_map]
      exact h1
  refine ⟨f1.touch (S := fun k => k = gs) ((Touch.refl (fun k => k = gs) wi).setCell (fun _ => rfl) _) fun t r k hr hk e => ?_, h.blk.set_ 7 _, h.bel.setCell h.lo _, h.lo⟩
  subst e
  exact f1.ne_blk hr h.blk (by rcases SS.fam_ty _ hr with e | e <;> rw [e] <;> decide) hk
theorem SW.noCur (h : SW w wi d An cn Aa ca gs s) : SW w wi d An cn Aa ca gs { s with cur := none } :=
  h.less (fun t r hr => by cases t <;> first | exact hr | (simp [SS.fam] at hr)) rfl rfl rfl rfl
/-- the rows at the start -/
def startS (gb gc gm nb n : Nat) : SS := { vc := .slice (some ⟨gc, 0, none⟩) n n, cls := List.replicate n 0, vb := .slice (some ⟨gb, 0, none⟩) nb nb, B := List.replicate nb (.slice none 0 0, []), vm := .slice (some ⟨gm, 0, none⟩) 2 2, M := [(.slice none 0 0, []), (.slice none 0 0, [])], vt := .slice none 0 0, T := [], H := fun _ => none, cur := none }
theorem SW.start {gb gc gm nb n : Nat} (hb : wi.ownsRow w.heap.size 22 1 (.slice (some ⟨gb, 0, none⟩) nb nb) nb (List.replicate nb (.slice none 0 0))) (hc : wi.ownsRow w.heap.size 3 1 (.slice (some ⟨gc, 0, none⟩) n n) n (List.replicate n (.int .i64 0)))
    (hm : wi.ownsRow w.heap.size 22 1 (.slice (some ⟨gm, 0, none⟩) 2 2) 2 [.slice none 0 0, .slice none 0 0]) (h1 : gb ≠ gc) (h2 : gb ≠ gm) (h3 : gc ≠ gm)
    (hblk : Blk wi gs 133 #[.int .i64 d.K, .int .i64 d.S, .slice An d.N.length cn, .slice Aa d.A.length ca, .slice (some ⟨gb, 0, none⟩) nb nb, .slice (some ⟨gc, 0, none⟩) n n, .slice (some ⟨gm, 0, none⟩) 2 2, .slice none 0 0]) (hbel : Below w.heap.size w wi) (hlo : w.heap.size ≤ gs) :
    SW w wi d An cn Aa ca gs (startS gb gc gm nb n) where
  fam := by
    have hbk : ∀ (p : Nat) r, (startS gb gc gm nb n).fam (.bk p) = some r → r = rI (.slice none 0 0, []) := fun p r hr => by
      obtain ⟨q, hq, rfl⟩ := Option.map_eq_some_iff.1 (show ((startS gb gc gm nb n).B[p]?).map rI = some r from hr)
      have := List.eq_of_mem_replicate (List.mem_of_getElem? hq)
      rw [this]
    have hme : ∀ (p : Nat) r, (startS gb gc gm nb n).fam (.mem p) = some r → r = rI (.slice none 0 0, []) := fun p r hr => by
      obtain ⟨q, hq, rfl⟩ := Option.map_eq_some_iff.1 (show ((startS gb gc gm nb n).M[p]?).map rI = some r from hr)
      have := List.mem_of_getElem? hq
      rcases List.mem_cons.1 this with e | e
      · rw [e]
      · rw [List.mem_singleton.1 e]
    refine ⟨fun t r hr => ?_, fun t t' r r' k hne hr hr' hk hk' => ?_⟩
    · cases t with
      | cls =>
        obtain rfl := Option.some.inj (show some _ = some r from hr)
        simp only [startS, List.map_replicate, List.length_replicate]; exact hc
      | ob =>
        obtain rfl := Option.some.inj (show some _ = some r from hr)
        simp only [startS, List.map_replicate, List.length_replicate]; exact hb
      | om => obtain rfl := Option.some.inj (show some _ = some r from hr); exact hm
      | ot => obtain rfl := Option.some.inj (show some _ = some r from hr); exact World.ownsRow_nil _ _ _ _
      | cur => cases hr
      | bk p => rw [hbk p r hr]; exact World.ownsRow_nil _ _ _ _
      | mem p => rw [hme p r hr]; exact World.ownsRow_nil _ _ _ _
      | todo p => simp [startS, SS.fam] at hr
      | hit c => cases hr
    · have key : ∀ t r, (startS gb gc gm nb n).fam t = some r → ∀ k, r.v.ownBlock = some k → (t = .cls ∧ k = gc) ∨ (t = .ob ∧ k = gb) ∨ (t = .om ∧ k = gm) := fun t r hr k hk => by
        cases t with
        | cls => obtain rfl := Option.some.inj (show some _ = some r from hr); exact .inl ⟨rfl, (Option.some.inj hk).symm⟩
        | ob => obtain rfl := Option.some.inj (show some _ = some r from hr); exact .inr (.inl ⟨rfl, (Option.some.inj hk).symm⟩)
        | om => obtain rfl := Option.some.inj (show some _ = some r from hr); exact .inr (.inr ⟨rfl, (Option.some.inj hk).symm⟩)
        | ot => obtain rfl := Option.some.inj (show some _ = some r from hr); cases hk
        | cur => cases hr
        | bk p => rw [hbk p r hr] at hk; cases hk
        | mem p => rw [hme p r hr] at hk; cases hk
        | todo p => simp [startS, SS.fam] at hr
        | hit c => cases hr
      rcases key t r hr k hk with ⟨rfl, e1⟩ | ⟨rfl, e1⟩ | ⟨rfl, e1⟩ <;> rcases key t' r' hr' k hk' with ⟨rfl, e2⟩ | ⟨rfl, e2⟩ | ⟨rfl, e2⟩ <;> first | exact hne rfl | omega
  blk := hblk
  bel := hbel
  lo := hlo
end
end Go.Proofs.Ytmpcoclgcldclaa
