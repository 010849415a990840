/- Closed facts of this program that the rows ask: the head's words are read from a list of signs, since the text itself is too long for the kernel's memory. -/
import Derived.Test.YtmpcoclgcldclaaRows
import Derived.JoinedOf
import Derived.NoCompiler
namespace Go.Proofs.Ytmpcoclgcldclaa
def headW1 : List Nat := [104, 97, 114, 110, 101, 115, 115]
def headW2 : List Nat := [102, 54, 54, 102, 52, 50, 56, 49, 99, 54, 98, 100, 57, 51, 100, 54, 50, 102, 57, 51, 48, 99, 51, 50, 51, 53, 52, 52, 48, 57, 54, 97, 102, 56, 51, 49, 53, 54, 57, 48, 100, 101, 51, 97, 50, 97, 53, 100, 98, 51, 98, 53, 99, 97, 100, 100, 53, 98, 53, 54, 54, 100, 48, 101]
def headW3 : List Nat := [99, 117, 116]
def headTail : List Nat := [97, 116, 32, 99, 114, 97, 99, 107, 110, 101, 108, 47, 99, 114, 97, 99, 107, 110, 101, 108, 108, 97, 119, 49, 53, 46, 68, 102, 97, 84, 101, 108, 108, 115, 32, 99, 114, 97, 99, 107, 110, 101, 108, 47, 99, 114, 97, 99, 107, 110, 101, 108, 108, 97, 119, 49, 53, 46, 68, 102, 97, 87, 111, 114, 100, 115, 32, 99, 114, 97, 99, 107, 110, 101, 108, 47, 99, 114, 97, 99, 107, 110, 101, 108, 108, 97, 119, 49, 53, 46, 68, 102, 97, 78, 111, 116, 32, 99, 114, 97, 99, 107, 110, 101, 108, 47, 99, 114, 97, 99, 107, 110, 101, 108, 108, 97, 119, 49, 53, 46, 68, 102, 97, 78, 97, 109, 101, 115, 32, 99, 114, 97, 99, 107, 110, 101, 108, 47, 99, 114, 97, 99, 107, 110, 101, 108, 108, 97, 119, 49, 53, 46, 68, 102, 97, 66, 111, 116, 104, 32, 99, 114, 97, 99, 107, 110, 101, 108, 47, 99, 114, 97, 99, 107, 110, 101, 108, 108, 97, 119, 49, 53, 46, 68, 102, 97, 76, 97, 119, 115, 32, 99, 114, 97, 99, 107, 110, 101, 108, 47, 99, 114, 97, 99, 107, 110, 101, 108, 108, 97, 119, 49, 55, 46, 83, 104, 111, 114, 116, 84, 101, 108, 108, 115, 32, 99, 114, 97, 99, 107, 110, 101, 108, 47, 99, 114, 97, 99, 107, 110, 101, 108, 108, 97, 119, 49, 55, 46, 83, 104, 111, 114, 116, 66, 111, 117, 110, 100, 115, 32, 99, 114, 97, 99, 107, 110, 101, 108, 47, 99, 114, 97, 99, 107, 110, 101, 108, 108, 97, 119, 49, 55, 46, 83, 104, 111, 114, 116, 67, 111, 115, 116, 115, 32, 99, 114, 97, 99, 107, 110, 101, 108, 47, 99, 114, 97, 99, 107, 110, 101, 108, 108, 97, 119, 49, 55, 46, 83, 104, 111, 114, 116, 76, 101, 97, 115, 116, 32, 99, 114, 97, 99, 107, 110, 101, 108, 47, 99, 114, 97, 99, 107, 110, 101, 108, 108, 97, 119, 49, 54, 46, 84, 105, 103, 104, 116, 84, 101, 108, 108, 115, 32, 99, 114, 97, 99, 107, 110, 101, 108, 47, 99, 114, 97, 99, 107, 110, 101, 108, 108, 97, 119, 49, 54, 46, 84, 105, 103, 104, 116, 67, 111, 117, 110, 116, 115, 32, 99, 114, 97, 99, 107, 110, 101, 108, 47, 99, 114, 97, 99, 107, 110, 101, 108, 108, 97, 119, 49, 54, 46, 84, 105, 103, 104, 116, 76, 101, 97, 115, 116, 32, 99, 114, 97, 99, 107, 110, 101, 108, 47, 99, 114, 97, 99, 107, 110, 101, 108, 108, 97, 119, 49, 54, 46, 84, 105, 103, 104, 116, 83, 117, 109, 115, 32, 99, 114, 97, 99, 107, 110, 101, 108, 47, 99, 114, 97, 99, 107, 110, 101, 108, 108, 97, 119, 49, 54, 46, 84, 105, 103, 104, 116, 67, 111, 109, 112, 97, 114, 101, 115, 32, 99, 114, 97, 99, 107, 110, 101, 108, 47, 99, 114, 97, 99, 107, 110, 101, 108, 108, 97, 119, 49, 54, 46, 84, 105, 103, 104, 116, 79, 114, 100, 101, 114, 115, 32, 99, 114, 97, 99, 107, 110, 101, 108, 47, 99, 114, 97, 99, 107, 110, 101, 108, 108, 97, 119, 49, 57, 46, 80, 97, 116, 104, 115, 101, 116, 80, 97, 116, 104, 115, 32, 99, 114, 97, 99, 107, 110, 101, 108, 47, 99, 114, 97, 99, 107, 110, 101, 108, 108, 97, 119, 49, 57, 46, 80, 97, 116, 104, 115, 101, 116, 77, 97, 116, 99, 104, 32, 99, 114, 97, 99, 107, 110, 101, 108, 47, 99, 114, 97, 99, 107, 110, 101, 108, 108, 97, 119, 49, 57, 46, 80, 97, 116, 104, 115, 101, 116, 87, 111, 114, 100, 115, 32, 99, 114, 97, 99, 107, 110, 101, 108, 47, 99, 114, 97, 99, 107, 110, 101, 108, 108, 97, 119, 49, 57, 46, 80, 97, 116, 104, 115, 101, 116, 76, 101, 97, 115, 116, 32, 99, 114, 97, 99, 107, 110, 101, 108, 47, 99, 114, 97, 99, 107, 110, 101, 108, 108, 97, 119, 49, 57, 46, 80, 97, 116, 104, 115, 101, 116, 80, 114, 101, 102, 105, 120, 32, 99, 114, 97, 99, 107, 110, 101, 108, 47, 99, 114, 97, 99, 107, 110, 101, 108, 108, 97, 119, 49, 57, 46, 80, 97, 116, 104, 115, 101, 116, 66, 97, 99, 107]
def headSigns : List Char := headW1.map Char.ofNat ++ Char.ofNat 32 :: (headW2.map Char.ofNat ++ Char.ofNat 32 :: (headW3.map Char.ofNat ++ Char.ofNat 32 :: headTail.map Char.ofNat))
set_option maxRecDepth 1000000 in
theorem head_is : Try.prog.initOrder = String.ofList headSigns := by kernel_rfl
theorem head_list : Try.prog.initOrder.toList = headSigns := by rw [head_is, String.toList_ofList]
theorem words_split : ∀ (u r : List Char), (∀ c ∈ u, c ≠ Char.ofNat 32) → wordsSigns (u ++ Char.ofNat 32 :: r) = u :: wordsSigns r
  | [], r, _ => by
    show wordsSigns (Char.ofNat 32 :: r) = _
    rw [show Char.ofNat 32 = Char.ofNat 32 from rfl]
    exact wordsSigns.eq_2 r
  | c :: u, r, h => by
    have hc : c ≠ Char.ofNat 32 := h c (by simp)
    have ih := words_split u r fun x hx => h x (by simp [hx])
    show wordsSigns (c :: (u ++ Char.ofNat 32 :: r)) = _
    rw [wordsSigns.eq_3 c _ hc, ih]
theorem head_words : wordsSigns headSigns = headW1.map Char.ofNat :: headW2.map Char.ofNat :: headW3.map Char.ofNat :: wordsSigns (headTail.map Char.ofNat) := by
  unfold headSigns
  rw [words_split _ _ (by decide), words_split _ _ (by decide), words_split _ _ (by decide)]
theorem head_behind : behindMainWord (wordsSigns headSigns) = headW3.map Char.ofNat :: wordsSigns (headTail.map Char.ofNat) := by
  rw [head_words]
  have h : ((headW1.map Char.ofNat == "harness".toList || headW1.map Char.ofNat == "ownmain".toList) && isSumSigns (headW2.map Char.ofNat)) = true := by kernel_rfl
  show (if ((headW1.map Char.ofNat == "harness".toList || headW1.map Char.ofNat == "ownmain".toList) && isSumSigns (headW2.map Char.ofNat)) = true then headW3.map Char.ofNat :: wordsSigns (headTail.map Char.ofNat) else headW1.map Char.ofNat :: headW2.map Char.ofNat :: headW3.map Char.ofNat :: wordsSigns (headTail.map Char.ofNat)) = _
  rw [if_pos h]
theorem head_lays : Try.prog.laysLater = false := by kernel_rfl
theorem head_reflect : Try.prog.bearsReflect = false := by kernel_rfl
theorem head_w3 : headW3.map Char.ofNat = "cut".toList := by kernel_rfl
theorem strip_cut (r : List (List Char)) : stripLifts liftWords ("cut".toList :: r) = ([], "cut".toList :: r) := by kernel_rfl
theorem head_door : Try.prog.doorFits [] = true := by kernel_rfl
theorem head_is3 : behindMainWord (wordsSigns Try.prog.initOrder.toList) = "cut".toList :: wordsSigns (headTail.map Char.ofNat) := by
  rw [head_list, head_behind, head_w3]
theorem pin_prog : Try.pinned.checked.prog = Try.prog := rfl
theorem mayEnter_of (P : Program) (r : List (List Char)) (h : behindMainWord (wordsSigns P.initOrder.toList) = "cut".toList :: r) (h1 : P.laysLater = false) (h2 : P.bearsReflect = false) (h3 : P.doorFits [] = true) : P.mayEnter = true := by
  unfold Program.mayEnter
  rw [h]
  simp only [strip_cut, h1, h2, h3]
  simp
theorem lifts_of (P : Program) (r : List (List Char)) (h : behindMainWord (wordsSigns P.initOrder.toList) = "cut".toList :: r) : P.headLifts = [] := by
  unfold Program.headLifts
  rw [h, strip_cut]
  simp
theorem final_of (P : Program) (r : List (List Char)) (h : behindMainWord (wordsSigns P.initOrder.toList) = "cut".toList :: r) : P.liftsFinal = false := by
  unfold Program.liftsFinal
  rw [h, lifts_of P r h]
  have h : ((some "cut".toList : Option (List Char)) == some "carried".toList) = false := by decide
  simp only [List.head?_cons, h]
  rfl
theorem make_of (P : Program) (r : List (List Char)) (h : behindMainWord (wordsSigns P.initOrder.toList) = "cut".toList :: r) : P.make = some Make.cut := by
  unfold Program.make
  rw [h]
  have h1 : ("cut".toList == "gc".toList || "cut".toList == "spec".toList) = false := by decide
  have h2 : ("cut".toList == "cut".toList) = true := by decide
  simp only [h1, h2, Bool.true_or, if_true, Bool.false_eq_true, if_false]
theorem fact_mayEnter : Try.pinned.checked.prog.mayEnter = true := by
  rw [pin_prog]; exact mayEnter_of _ _ head_is3 head_lays head_reflect head_door
theorem fact_liftsFinal : (false == Try.pinned.checked.prog.liftsFinal) = true := by
  rw [pin_prog, final_of _ _ head_is3]; rfl
theorem fact_make : (Try.pinned.checked.prog.make == some Make.cut) = true := by
  rw [pin_prog, make_of _ _ head_is3]; decide
theorem fact_laidOut : laidOutB Try.pinned.checked.prog = true := by kernel_rfl
theorem fact_mapsRowed : mapsRowed Try.pinned.checked.prog = true := by kernel_rfl
theorem fact_stops : (Try.pinned.checked.prog.stops == []) = true := by kernel_rfl
theorem fact_stopKnobs : (Try.pinned.checked.prog.stopKnobs == []) = true := by kernel_rfl
theorem fact_plainKeys : (false == Try.pinned.checked.prog.plainKeys) = true := by kernel_rfl
theorem fact_stopsHeard : Try.pinned.checked.prog.stopsHeard = true := by kernel_rfl
end Go.Proofs.Ytmpcoclgcldclaa
