/-
  No cell of these rows narrows 'for every input' (looked for: loops, veiled, ifaces, maps, wideKeys, modest, calm, conditions, laid).
  DERIVED. THE GIVEN ROWS OF THIS SEAT. 22 by the template 'for every input the law returns true; each argument reads behind the call as it read before'; 0 by the template 'total and deterministic' (their statements: YtmpcoclgcldclaaTotals.lean).
  GIVEN WITH THE SEED: the statements are not yours to turn. If you find one false, say at which input.
  Laid BY PROGRAM, IN A SANDBOX (cutbox-rows.mjs): the forced cells as the released guide's own fill.sh prints them over the translation 35e42241c9de420c… (all of the seat's roots in one cut). By AI agents, Wed Nov 11 2026. No macro, syntax, notation, axiom, sorry.
-/
import Derived.Test.YtmpcoclgcldclaaChecked
import GoSem.Claim
import GoSem.ClaimJoined
import GoSem.ClaimMapViews
import Derived.JoinedTies
import Derived.KernelRfl
namespace Go.Proofs.Ytmpcoclgcldclaa
/- THE CELL 'sum', in the pinned program and in every row, IS THE sha256 OF THE DUMP (.gsa) THAT YtmpcoclgcldclaaProg.lean LOADS. Nothing in Lean hashes anything: it is a label: what it is worth is what the hold of that sum in a sandbox is worth. -/
noncomputable def Try.pinned : Pinned := { name := "ytmpcoclgcldclaa", sum := "35e42241c9de420c551b76b44731675e55ce44049c6da7067db78f4b98d38b72", checked := Try.checked }
namespace Rows
def none {H : Type} : Left H := { results := [], args := [] }

/-- 'cracknellaw15.DfaTells': WHATEVER THE INPUT: true; the input reads as it did. -/
def dfaTellsSpec : ChangeSpec := { name := "dfaTells", fn := fun _ => fun
  | [d1, d2] => { results := [.lit (.bool true)], args := [d1, d2] }
  | _ => none }
def dfaTellsRow : OpenClaim := { program := "ytmpcoclgcldclaa", sum := "35e42241c9de420c551b76b44731675e55ce44049c6da7067db78f4b98d38b72", func := "cracknel/cracknellaw15.DfaTells", spec := "dfaTells", unfollowed := true, recurses := true, plainKeys := false, apart := false }
def DfaTellsSaid : Prop := dfaTellsRow.holds Try.pinned (OpenSpec.ofChange dfaTellsSpec)

/-- ITS FALSE NEIGHBOUR: 'it returns false'. Refute it at one input. -/
def dfaTellsWrong : ChangeSpec := { name := "dfaTells", fn := fun _ => fun
  | [d1, d2] => { results := [.lit (.bool false)], args := [d1, d2] }
  | _ => none }
def DfaTellsWrongFalsely : Prop := dfaTellsRow.holds Try.pinned (OpenSpec.ofChange dfaTellsWrong)

/-- 'cracknellaw15.DfaWords': WHATEVER THE INPUT: true; the input reads as it did. -/
def dfaWordsSpec : ChangeSpec := { name := "dfaWords", fn := fun _ => fun
  | [d1, d2, d3] => { results := [.lit (.bool true)], args := [d1, d2, d3] }
  | _ => none }
def dfaWordsRow : OpenClaim := { program := "ytmpcoclgcldclaa", sum := "35e42241c9de420c551b76b44731675e55ce44049c6da7067db78f4b98d38b72", func := "cracknel/cracknellaw15.DfaWords", spec := "dfaWords", unfollowed := true, recurses := true, plainKeys := false, apart := false }
def DfaWordsSaid : Prop := dfaWordsRow.holds Try.pinned (OpenSpec.ofChange dfaWordsSpec)

/-- ITS FALSE NEIGHBOUR: 'it returns false'. Refute it at one input. -/
def dfaWordsWrong : ChangeSpec := { name := "dfaWords", fn := fun _ => fun
  | [d1, d2, d3] => { results := [.lit (.bool false)], args := [d1, d2, d3] }
  | _ => none }
def DfaWordsWrongFalsely : Prop := dfaWordsRow.holds Try.pinned (OpenSpec.ofChange dfaWordsWrong)

/-- 'cracknellaw15.DfaNot': WHATEVER THE INPUT: true; the input reads as it did. -/
def dfaNotSpec : ChangeSpec := { name := "dfaNot", fn := fun _ => fun
  | [d1, d2] => { results := [.lit (.bool true)], args := [d1, d2] }
  | _ => none }
def dfaNotRow : OpenClaim := { program := "ytmpcoclgcldclaa", sum := "35e42241c9de420c551b76b44731675e55ce44049c6da7067db78f4b98d38b72", func := "cracknel/cracknellaw15.DfaNot", spec := "dfaNot", unfollowed := true, recurses := true, plainKeys := false, apart := false }
def DfaNotSaid : Prop := dfaNotRow.holds Try.pinned (OpenSpec.ofChange dfaNotSpec)

/-- ITS FALSE NEIGHBOUR: 'it returns false'. Refute it at one input. -/
def dfaNotWrong : ChangeSpec := { name := "dfaNot", fn := fun _ => fun
  | [d1, d2] => { results := [.lit (.bool false)], args := [d1, d2] }
  | _ => none }
def DfaNotWrongFalsely : Prop := dfaNotRow.holds Try.pinned (OpenSpec.ofChange dfaNotWrong)

/-- 'cracknellaw15.DfaNames': WHATEVER THE INPUT: true; the input reads as it did. -/
def dfaNamesSpec : ChangeSpec := { name := "dfaNames", fn := fun _ => fun
  | [] => { results := [.lit (.bool true)], args := [] }
  | _ => none }
def dfaNamesRow : OpenClaim := { program := "ytmpcoclgcldclaa", sum := "35e42241c9de420c551b76b44731675e55ce44049c6da7067db78f4b98d38b72", func := "cracknel/cracknellaw15.DfaNames", spec := "dfaNames", unfollowed := true, recurses := true, plainKeys := false, apart := false }
def DfaNamesSaid : Prop := dfaNamesRow.holds Try.pinned (OpenSpec.ofChange dfaNamesSpec)

/-- ITS FALSE NEIGHBOUR: 'it returns false'. Refute it at one input. -/
def dfaNamesWrong : ChangeSpec := { name := "dfaNames", fn := fun _ => fun
  | [] => { results := [.lit (.bool false)], args := [] }
  | _ => none }
def DfaNamesWrongFalsely : Prop := dfaNamesRow.holds Try.pinned (OpenSpec.ofChange dfaNamesWrong)

/-- 'cracknellaw15.DfaBoth': WHATEVER THE INPUT: true; the input reads as it did. -/
def dfaBothSpec : ChangeSpec := { name := "dfaBoth", fn := fun _ => fun
  | [d1, d2] => { results := [.lit (.bool true)], args := [d1, d2] }
  | _ => none }
def dfaBothRow : OpenClaim := { program := "ytmpcoclgcldclaa", sum := "35e42241c9de420c551b76b44731675e55ce44049c6da7067db78f4b98d38b72", func := "cracknel/cracknellaw15.DfaBoth", spec := "dfaBoth", unfollowed := true, recurses := true, plainKeys := false, apart := false }
def DfaBothSaid : Prop := dfaBothRow.holds Try.pinned (OpenSpec.ofChange dfaBothSpec)

/-- ITS FALSE NEIGHBOUR: 'it returns false'. Refute it at one input. -/
def dfaBothWrong : ChangeSpec := { name := "dfaBoth", fn := fun _ => fun
  | [d1, d2] => { results := [.lit (.bool false)], args := [d1, d2] }
  | _ => none }
def DfaBothWrongFalsely : Prop := dfaBothRow.holds Try.pinned (OpenSpec.ofChange dfaBothWrong)

/-- 'cracknellaw15.DfaLaws': WHATEVER THE INPUT: true; the input reads as it did. -/
def dfaLawsSpec : ChangeSpec := { name := "dfaLaws", fn := fun _ => fun
  | [d1, d2, d3] => { results := [.lit (.bool true)], args := [d1, d2, d3] }
  | _ => none }
def dfaLawsRow : OpenClaim := { program := "ytmpcoclgcldclaa", sum := "35e42241c9de420c551b76b44731675e55ce44049c6da7067db78f4b98d38b72", func := "cracknel/cracknellaw15.DfaLaws", spec := "dfaLaws", unfollowed := true, recurses := true, plainKeys := false, apart := false }
def DfaLawsSaid : Prop := dfaLawsRow.holds Try.pinned (OpenSpec.ofChange dfaLawsSpec)

/-- ITS FALSE NEIGHBOUR: 'it returns false'. Refute it at one input. -/
def dfaLawsWrong : ChangeSpec := { name := "dfaLaws", fn := fun _ => fun
  | [d1, d2, d3] => { results := [.lit (.bool false)], args := [d1, d2, d3] }
  | _ => none }
def DfaLawsWrongFalsely : Prop := dfaLawsRow.holds Try.pinned (OpenSpec.ofChange dfaLawsWrong)

/-- 'cracknellaw17.ShortTells': WHATEVER THE INPUT: true; the input reads as it did. -/
def shortTellsSpec : ChangeSpec := { name := "shortTells", fn := fun _ => fun
  | [d1, d2, d3] => { results := [.lit (.bool true)], args := [d1, d2, d3] }
  | _ => none }
def shortTellsRow : OpenClaim := { program := "ytmpcoclgcldclaa", sum := "35e42241c9de420c551b76b44731675e55ce44049c6da7067db78f4b98d38b72", func := "cracknel/cracknellaw17.ShortTells", spec := "shortTells", unfollowed := true, recurses := true, plainKeys := false, apart := false }
def ShortTellsSaid : Prop := shortTellsRow.holds Try.pinned (OpenSpec.ofChange shortTellsSpec)

/-- ITS FALSE NEIGHBOUR: 'it returns false'. Refute it at one input. -/
def shortTellsWrong : ChangeSpec := { name := "shortTells", fn := fun _ => fun
  | [d1, d2, d3] => { results := [.lit (.bool false)], args := [d1, d2, d3] }
  | _ => none }
def ShortTellsWrongFalsely : Prop := shortTellsRow.holds Try.pinned (OpenSpec.ofChange shortTellsWrong)

/-- 'cracknellaw17.ShortBounds': WHATEVER THE INPUT: true; the input reads as it did. -/
def shortBoundsSpec : ChangeSpec := { name := "shortBounds", fn := fun _ => fun
  | [d1, d2, d3] => { results := [.lit (.bool true)], args := [d1, d2, d3] }
  | _ => none }
def shortBoundsRow : OpenClaim := { program := "ytmpcoclgcldclaa", sum := "35e42241c9de420c551b76b44731675e55ce44049c6da7067db78f4b98d38b72", func := "cracknel/cracknellaw17.ShortBounds", spec := "shortBounds", unfollowed := true, recurses := true, plainKeys := false, apart := false }
def ShortBoundsSaid : Prop := shortBoundsRow.holds Try.pinned (OpenSpec.ofChange shortBoundsSpec)

/-- ITS FALSE NEIGHBOUR: 'it returns false'. Refute it at one input. -/
def shortBoundsWrong : ChangeSpec := { name := "shortBounds", fn := fun _ => fun
  | [d1, d2, d3] => { results := [.lit (.bool false)], args := [d1, d2, d3] }
  | _ => none }
def ShortBoundsWrongFalsely : Prop := shortBoundsRow.holds Try.pinned (OpenSpec.ofChange shortBoundsWrong)

/-- 'cracknellaw17.ShortCosts': WHATEVER THE INPUT: true; the input reads as it did. -/
def shortCostsSpec : ChangeSpec := { name := "shortCosts", fn := fun _ => fun
  | [d1, d2] => { results := [.lit (.bool true)], args := [d1, d2] }
  | _ => none }
def shortCostsRow : OpenClaim := { program := "ytmpcoclgcldclaa", sum := "35e42241c9de420c551b76b44731675e55ce44049c6da7067db78f4b98d38b72", func := "cracknel/cracknellaw17.ShortCosts", spec := "shortCosts", unfollowed := true, recurses := true, plainKeys := false, apart := false }
def ShortCostsSaid : Prop := shortCostsRow.holds Try.pinned (OpenSpec.ofChange shortCostsSpec)

/-- ITS FALSE NEIGHBOUR: 'it returns false'. Refute it at one input. -/
def shortCostsWrong : ChangeSpec := { name := "shortCosts", fn := fun _ => fun
  | [d1, d2] => { results := [.lit (.bool false)], args := [d1, d2] }
  | _ => none }
def ShortCostsWrongFalsely : Prop := shortCostsRow.holds Try.pinned (OpenSpec.ofChange shortCostsWrong)

/-- 'cracknellaw17.ShortLeast': WHATEVER THE INPUT: true; the input reads as it did. -/
def shortLeastSpec : ChangeSpec := { name := "shortLeast", fn := fun _ => fun
  | [d1, d2, d3] => { results := [.lit (.bool true)], args := [d1, d2, d3] }
  | _ => none }
def shortLeastRow : OpenClaim := { program := "ytmpcoclgcldclaa", sum := "35e42241c9de420c551b76b44731675e55ce44049c6da7067db78f4b98d38b72", func := "cracknel/cracknellaw17.ShortLeast", spec := "shortLeast", unfollowed := true, recurses := true, plainKeys := false, apart := false }
def ShortLeastSaid : Prop := shortLeastRow.holds Try.pinned (OpenSpec.ofChange shortLeastSpec)

/-- ITS FALSE NEIGHBOUR: 'it returns false'. Refute it at one input. -/
def shortLeastWrong : ChangeSpec := { name := "shortLeast", fn := fun _ => fun
  | [d1, d2, d3] => { results := [.lit (.bool false)], args := [d1, d2, d3] }
  | _ => none }
def ShortLeastWrongFalsely : Prop := shortLeastRow.holds Try.pinned (OpenSpec.ofChange shortLeastWrong)

/-- 'cracknellaw16.TightTells': WHATEVER THE INPUT: true; the input reads as it did. -/
def tightTellsSpec : ChangeSpec := { name := "tightTells", fn := fun _ => fun
  | [d] => { results := [.lit (.bool true)], args := [d] }
  | _ => none }
def tightTellsRow : OpenClaim := { program := "ytmpcoclgcldclaa", sum := "35e42241c9de420c551b76b44731675e55ce44049c6da7067db78f4b98d38b72", func := "cracknel/cracknellaw16.TightTells", spec := "tightTells", unfollowed := true, recurses := true, plainKeys := false, apart := false }
def TightTellsSaid : Prop := tightTellsRow.holds Try.pinned (OpenSpec.ofChange tightTellsSpec)

/-- ITS FALSE NEIGHBOUR: 'it returns false'. Refute it at one input. -/
def tightTellsWrong : ChangeSpec := { name := "tightTells", fn := fun _ => fun
  | [d] => { results := [.lit (.bool false)], args := [d] }
  | _ => none }
def TightTellsWrongFalsely : Prop := tightTellsRow.holds Try.pinned (OpenSpec.ofChange tightTellsWrong)

/-- 'cracknellaw16.TightCounts': WHATEVER THE INPUT: true; the input reads as it did. -/
def tightCountsSpec : ChangeSpec := { name := "tightCounts", fn := fun _ => fun
  | [d1, d2] => { results := [.lit (.bool true)], args := [d1, d2] }
  | _ => none }
def tightCountsRow : OpenClaim := { program := "ytmpcoclgcldclaa", sum := "35e42241c9de420c551b76b44731675e55ce44049c6da7067db78f4b98d38b72", func := "cracknel/cracknellaw16.TightCounts", spec := "tightCounts", unfollowed := true, recurses := true, plainKeys := false, apart := false }
def TightCountsSaid : Prop := tightCountsRow.holds Try.pinned (OpenSpec.ofChange tightCountsSpec)

/-- ITS FALSE NEIGHBOUR: 'it returns false'. Refute it at one input. -/
def tightCountsWrong : ChangeSpec := { name := "tightCounts", fn := fun _ => fun
  | [d1, d2] => { results := [.lit (.bool false)], args := [d1, d2] }
  | _ => none }
def TightCountsWrongFalsely : Prop := tightCountsRow.holds Try.pinned (OpenSpec.ofChange tightCountsWrong)

/-- 'cracknellaw16.TightLeast': WHATEVER THE INPUT: true; the input reads as it did. -/
def tightLeastSpec : ChangeSpec := { name := "tightLeast", fn := fun _ => fun
  | [d1, d2, d3] => { results := [.lit (.bool true)], args := [d1, d2, d3] }
  | _ => none }
def tightLeastRow : OpenClaim := { program := "ytmpcoclgcldclaa", sum := "35e42241c9de420c551b76b44731675e55ce44049c6da7067db78f4b98d38b72", func := "cracknel/cracknellaw16.TightLeast", spec := "tightLeast", unfollowed := true, recurses := true, plainKeys := false, apart := false }
def TightLeastSaid : Prop := tightLeastRow.holds Try.pinned (OpenSpec.ofChange tightLeastSpec)

/-- ITS FALSE NEIGHBOUR: 'it returns false'. Refute it at one input. -/
def tightLeastWrong : ChangeSpec := { name := "tightLeast", fn := fun _ => fun
  | [d1, d2, d3] => { results := [.lit (.bool false)], args := [d1, d2, d3] }
  | _ => none }
def TightLeastWrongFalsely : Prop := tightLeastRow.holds Try.pinned (OpenSpec.ofChange tightLeastWrong)

/-- 'cracknellaw16.TightSums': WHATEVER THE INPUT: true; the input reads as it did. -/
def tightSumsSpec : ChangeSpec := { name := "tightSums", fn := fun _ => fun
  | [d1, d2, d3] => { results := [.lit (.bool true)], args := [d1, d2, d3] }
  | _ => none }
def tightSumsRow : OpenClaim := { program := "ytmpcoclgcldclaa", sum := "35e42241c9de420c551b76b44731675e55ce44049c6da7067db78f4b98d38b72", func := "cracknel/cracknellaw16.TightSums", spec := "tightSums", unfollowed := true, recurses := true, plainKeys := false, apart := false }
def TightSumsSaid : Prop := tightSumsRow.holds Try.pinned (OpenSpec.ofChange tightSumsSpec)

/-- ITS FALSE NEIGHBOUR: 'it returns false'. Refute it at one input. -/
def tightSumsWrong : ChangeSpec := { name := "tightSums", fn := fun _ => fun
  | [d1, d2, d3] => { results := [.lit (.bool false)], args := [d1, d2, d3] }
  | _ => none }
def TightSumsWrongFalsely : Prop := tightSumsRow.holds Try.pinned (OpenSpec.ofChange tightSumsWrong)

/-- 'cracknellaw16.TightCompares': WHATEVER THE INPUT: true; the input reads as it did. -/
def tightComparesSpec : ChangeSpec := { name := "tightCompares", fn := fun _ => fun
  | [d1, d2] => { results := [.lit (.bool true)], args := [d1, d2] }
  | _ => none }
def tightComparesRow : OpenClaim := { program := "ytmpcoclgcldclaa", sum := "35e42241c9de420c551b76b44731675e55ce44049c6da7067db78f4b98d38b72", func := "cracknel/cracknellaw16.TightCompares", spec := "tightCompares", unfollowed := true, recurses := true, plainKeys := false, apart := false }
def TightComparesSaid : Prop := tightComparesRow.holds Try.pinned (OpenSpec.ofChange tightComparesSpec)

/-- ITS FALSE NEIGHBOUR: 'it returns false'. Refute it at one input. -/
def tightComparesWrong : ChangeSpec := { name := "tightCompares", fn := fun _ => fun
  | [d1, d2] => { results := [.lit (.bool false)], args := [d1, d2] }
  | _ => none }
def TightComparesWrongFalsely : Prop := tightComparesRow.holds Try.pinned (OpenSpec.ofChange tightComparesWrong)

/-- 'cracknellaw16.TightOrders': WHATEVER THE INPUT: true; the input reads as it did. -/
def tightOrdersSpec : ChangeSpec := { name := "tightOrders", fn := fun _ => fun
  | [d1, d2] => { results := [.lit (.bool true)], args := [d1, d2] }
  | _ => none }
def tightOrdersRow : OpenClaim := { program := "ytmpcoclgcldclaa", sum := "35e42241c9de420c551b76b44731675e55ce44049c6da7067db78f4b98d38b72", func := "cracknel/cracknellaw16.TightOrders", spec := "tightOrders", unfollowed := true, recurses := true, plainKeys := false, apart := false }
def TightOrdersSaid : Prop := tightOrdersRow.holds Try.pinned (OpenSpec.ofChange tightOrdersSpec)

/-- ITS FALSE NEIGHBOUR: 'it returns false'. Refute it at one input. -/
def tightOrdersWrong : ChangeSpec := { name := "tightOrders", fn := fun _ => fun
  | [d1, d2] => { results := [.lit (.bool false)], args := [d1, d2] }
  | _ => none }
def TightOrdersWrongFalsely : Prop := tightOrdersRow.holds Try.pinned (OpenSpec.ofChange tightOrdersWrong)

/-- 'cracknellaw19.PathsetPaths': WHATEVER THE INPUT: true; the input reads as it did. -/
def pathsetPathsSpec : ChangeSpec := { name := "pathsetPaths", fn := fun _ => fun
  | [d] => { results := [.lit (.bool true)], args := [d] }
  | _ => none }
def pathsetPathsRow : OpenClaim := { program := "ytmpcoclgcldclaa", sum := "35e42241c9de420c551b76b44731675e55ce44049c6da7067db78f4b98d38b72", func := "cracknel/cracknellaw19.PathsetPaths", spec := "pathsetPaths", inPlace := ["internal/bytealg.IndexByteString"], unfollowed := true, recurses := true, plainKeys := false, apart := false }
def PathsetPathsSaid : Prop := pathsetPathsRow.holds Try.pinned (OpenSpec.ofChange pathsetPathsSpec)

/-- ITS FALSE NEIGHBOUR: 'it returns false'. Refute it at one input. -/
def pathsetPathsWrong : ChangeSpec := { name := "pathsetPaths", fn := fun _ => fun
  | [d] => { results := [.lit (.bool false)], args := [d] }
  | _ => none }
def PathsetPathsWrongFalsely : Prop := pathsetPathsRow.holds Try.pinned (OpenSpec.ofChange pathsetPathsWrong)

/-- 'cracknellaw19.PathsetMatch': WHATEVER THE INPUT: true; the input reads as it did. -/
def pathsetMatchSpec : ChangeSpec := { name := "pathsetMatch", fn := fun _ => fun
  | [d1, d2] => { results := [.lit (.bool true)], args := [d1, d2] }
  | _ => none }
def pathsetMatchRow : OpenClaim := { program := "ytmpcoclgcldclaa", sum := "35e42241c9de420c551b76b44731675e55ce44049c6da7067db78f4b98d38b72", func := "cracknel/cracknellaw19.PathsetMatch", spec := "pathsetMatch", inPlace := ["internal/bytealg.IndexByteString"], unfollowed := true, recurses := true, plainKeys := false, apart := false }
def PathsetMatchSaid : Prop := pathsetMatchRow.holds Try.pinned (OpenSpec.ofChange pathsetMatchSpec)

/-- ITS FALSE NEIGHBOUR: 'it returns false'. Refute it at one input. -/
def pathsetMatchWrong : ChangeSpec := { name := "pathsetMatch", fn := fun _ => fun
  | [d1, d2] => { results := [.lit (.bool false)], args := [d1, d2] }
  | _ => none }
def PathsetMatchWrongFalsely : Prop := pathsetMatchRow.holds Try.pinned (OpenSpec.ofChange pathsetMatchWrong)

/-- 'cracknellaw19.PathsetWords': WHATEVER THE INPUT: true; the input reads as it did. -/
def pathsetWordsSpec : ChangeSpec := { name := "pathsetWords", fn := fun _ => fun
  | [d1, d2] => { results := [.lit (.bool true)], args := [d1, d2] }
  | _ => none }
def pathsetWordsRow : OpenClaim := { program := "ytmpcoclgcldclaa", sum := "35e42241c9de420c551b76b44731675e55ce44049c6da7067db78f4b98d38b72", func := "cracknel/cracknellaw19.PathsetWords", spec := "pathsetWords", inPlace := ["internal/bytealg.IndexByteString"], unfollowed := true, recurses := true, plainKeys := false, apart := false }
def PathsetWordsSaid : Prop := pathsetWordsRow.holds Try.pinned (OpenSpec.ofChange pathsetWordsSpec)

/-- ITS FALSE NEIGHBOUR: 'it returns false'. Refute it at one input. -/
def pathsetWordsWrong : ChangeSpec := { name := "pathsetWords", fn := fun _ => fun
  | [d1, d2] => { results := [.lit (.bool false)], args := [d1, d2] }
  | _ => none }
def PathsetWordsWrongFalsely : Prop := pathsetWordsRow.holds Try.pinned (OpenSpec.ofChange pathsetWordsWrong)

/-- 'cracknellaw19.PathsetLeast': WHATEVER THE INPUT: true; the input reads as it did. -/
def pathsetLeastSpec : ChangeSpec := { name := "pathsetLeast", fn := fun _ => fun
  | [d1, d2] => { results := [.lit (.bool true)], args := [d1, d2] }
  | _ => none }
def pathsetLeastRow : OpenClaim := { program := "ytmpcoclgcldclaa", sum := "35e42241c9de420c551b76b44731675e55ce44049c6da7067db78f4b98d38b72", func := "cracknel/cracknellaw19.PathsetLeast", spec := "pathsetLeast", inPlace := ["internal/bytealg.IndexByteString"], unfollowed := true, recurses := true, plainKeys := false, apart := false }
def PathsetLeastSaid : Prop := pathsetLeastRow.holds Try.pinned (OpenSpec.ofChange pathsetLeastSpec)

/-- ITS FALSE NEIGHBOUR: 'it returns false'. Refute it at one input. -/
def pathsetLeastWrong : ChangeSpec := { name := "pathsetLeast", fn := fun _ => fun
  | [d1, d2] => { results := [.lit (.bool false)], args := [d1, d2] }
  | _ => none }
def PathsetLeastWrongFalsely : Prop := pathsetLeastRow.holds Try.pinned (OpenSpec.ofChange pathsetLeastWrong)

/-- 'cracknellaw19.PathsetPrefix': WHATEVER THE INPUT: true; the input reads as it did. -/
def pathsetPrefixSpec : ChangeSpec := { name := "pathsetPrefix", fn := fun _ => fun
  | [d1, d2] => { results := [.lit (.bool true)], args := [d1, d2] }
  | _ => none }
def pathsetPrefixRow : OpenClaim := { program := "ytmpcoclgcldclaa", sum := "35e42241c9de420c551b76b44731675e55ce44049c6da7067db78f4b98d38b72", func := "cracknel/cracknellaw19.PathsetPrefix", spec := "pathsetPrefix", inPlace := ["internal/bytealg.IndexByteString"], unfollowed := true, recurses := true, plainKeys := false, apart := false }
def PathsetPrefixSaid : Prop := pathsetPrefixRow.holds Try.pinned (OpenSpec.ofChange pathsetPrefixSpec)

/-- ITS FALSE NEIGHBOUR: 'it returns false'. Refute it at one input. -/
def pathsetPrefixWrong : ChangeSpec := { name := "pathsetPrefix", fn := fun _ => fun
  | [d1, d2] => { results := [.lit (.bool false)], args := [d1, d2] }
  | _ => none }
def PathsetPrefixWrongFalsely : Prop := pathsetPrefixRow.holds Try.pinned (OpenSpec.ofChange pathsetPrefixWrong)

/-- 'cracknellaw19.PathsetBack': WHATEVER THE INPUT: true; the input reads as it did. -/
def pathsetBackSpec : ChangeSpec := { name := "pathsetBack", fn := fun _ => fun
  | [d] => { results := [.lit (.bool true)], args := [d] }
  | _ => none }
def pathsetBackRow : OpenClaim := { program := "ytmpcoclgcldclaa", sum := "35e42241c9de420c551b76b44731675e55ce44049c6da7067db78f4b98d38b72", func := "cracknel/cracknellaw19.PathsetBack", spec := "pathsetBack", inPlace := ["internal/bytealg.IndexByteString"], unfollowed := true, recurses := true, plainKeys := false, apart := false }
def PathsetBackSaid : Prop := pathsetBackRow.holds Try.pinned (OpenSpec.ofChange pathsetBackSpec)

/-- ITS FALSE NEIGHBOUR: 'it returns false'. Refute it at one input. -/
def pathsetBackWrong : ChangeSpec := { name := "pathsetBack", fn := fun _ => fun
  | [d] => { results := [.lit (.bool false)], args := [d] }
  | _ => none }
def PathsetBackWrongFalsely : Prop := pathsetBackRow.holds Try.pinned (OpenSpec.ofChange pathsetBackWrong)

/- THE SECOND FORM. 'bulk': how many values and letters a reading holds, each counted each time it is reached (what is shared counts as often as it is met; a slice's spare places count too). A statement '..UptoSaid' is the law's where the arguments, and the package variables that the reading takes, are together of bulk at most 1048576: NARROWER than '..Said'. Prove '..Said' where nothing that the law and all that it calls make is longer than what came in: it says more and counts as full. Else prove '..UptoSaid'. A law counts once. -/
mutual
def uptoBulk {H : Type} : DataW H → Nat
  | .lit (.string bytes) => bytes.length + 1
  | .lit _ => 1
  | .nil => 1
  | .ptr d => uptoBulk d + 1
  | .slice elems spare => uptoBulkAll elems + uptoBulkAll spare + 1
  | .agg parts => uptoBulkAll parts + 1
  | .iface _ d => uptoBulk d + 1
  | .map entries => uptoBulkEntries entries + 1
  | .held _ => 1
def uptoBulkAll {H : Type} : List (DataW H) → Nat
  | [] => 0
  | d :: r => uptoBulk d + uptoBulkAll r
def uptoBulkEntries {H : Type} : List (Lit × DataW H) → Nat
  | [] => 0
  | x :: r => uptoBulkEntry x + uptoBulkEntries r
def uptoBulkEntry {H : Type} : Lit × DataW H → Nat
  | (.string bytes, d) => bytes.length + uptoBulk d + 1
  | (_, d) => uptoBulk d + 1
 end
def uptoSmall : (H : Type) → List (DataW H) → Bool := fun _ ds => decide (uptoBulkAll ds ≤ 1048576)
def OpenSpec.upto (s : _root_.Go.ChangeSpec) : _root_.Go.OpenSpec := { _root_.Go.OpenSpec.ofChange s with cond := some uptoSmall }

/-- 'cracknellaw15.DfaTells', WHERE WHAT IT READS IS OF BULK AT MOST 1048576: true; the input reads as it did. -/
def dfaTellsUptoRow : OpenClaim := { program := "ytmpcoclgcldclaa", sum := "35e42241c9de420c551b76b44731675e55ce44049c6da7067db78f4b98d38b72", func := "cracknel/cracknellaw15.DfaTells", spec := "dfaTells", unfollowed := true, recurses := true, plainKeys := false, apart := false, narrowed := true }
def DfaTellsUptoSaid : Prop := dfaTellsUptoRow.holds Try.pinned (OpenSpec.upto dfaTellsSpec)

/-- 'cracknellaw15.DfaWords', WHERE WHAT IT READS IS OF BULK AT MOST 1048576: true; the input reads as it did. -/
def dfaWordsUptoRow : OpenClaim := { program := "ytmpcoclgcldclaa", sum := "35e42241c9de420c551b76b44731675e55ce44049c6da7067db78f4b98d38b72", func := "cracknel/cracknellaw15.DfaWords", spec := "dfaWords", unfollowed := true, recurses := true, plainKeys := false, apart := false, narrowed := true }
def DfaWordsUptoSaid : Prop := dfaWordsUptoRow.holds Try.pinned (OpenSpec.upto dfaWordsSpec)

/-- 'cracknellaw15.DfaNot', WHERE WHAT IT READS IS OF BULK AT MOST 1048576: true; the input reads as it did. -/
def dfaNotUptoRow : OpenClaim := { program := "ytmpcoclgcldclaa", sum := "35e42241c9de420c551b76b44731675e55ce44049c6da7067db78f4b98d38b72", func := "cracknel/cracknellaw15.DfaNot", spec := "dfaNot", unfollowed := true, recurses := true, plainKeys := false, apart := false, narrowed := true }
def DfaNotUptoSaid : Prop := dfaNotUptoRow.holds Try.pinned (OpenSpec.upto dfaNotSpec)

/-- 'cracknellaw15.DfaNames', WHERE WHAT IT READS IS OF BULK AT MOST 1048576: true; the input reads as it did. -/
def dfaNamesUptoRow : OpenClaim := { program := "ytmpcoclgcldclaa", sum := "35e42241c9de420c551b76b44731675e55ce44049c6da7067db78f4b98d38b72", func := "cracknel/cracknellaw15.DfaNames", spec := "dfaNames", unfollowed := true, recurses := true, plainKeys := false, apart := false, narrowed := true }
def DfaNamesUptoSaid : Prop := dfaNamesUptoRow.holds Try.pinned (OpenSpec.upto dfaNamesSpec)

/-- 'cracknellaw15.DfaBoth', WHERE WHAT IT READS IS OF BULK AT MOST 1048576: true; the input reads as it did. -/
def dfaBothUptoRow : OpenClaim := { program := "ytmpcoclgcldclaa", sum := "35e42241c9de420c551b76b44731675e55ce44049c6da7067db78f4b98d38b72", func := "cracknel/cracknellaw15.DfaBoth", spec := "dfaBoth", unfollowed := true, recurses := true, plainKeys := false, apart := false, narrowed := true }
def DfaBothUptoSaid : Prop := dfaBothUptoRow.holds Try.pinned (OpenSpec.upto dfaBothSpec)

/-- 'cracknellaw15.DfaLaws', WHERE WHAT IT READS IS OF BULK AT MOST 1048576: true; the input reads as it did. -/
def dfaLawsUptoRow : OpenClaim := { program := "ytmpcoclgcldclaa", sum := "35e42241c9de420c551b76b44731675e55ce44049c6da7067db78f4b98d38b72", func := "cracknel/cracknellaw15.DfaLaws", spec := "dfaLaws", unfollowed := true, recurses := true, plainKeys := false, apart := false, narrowed := true }
def DfaLawsUptoSaid : Prop := dfaLawsUptoRow.holds Try.pinned (OpenSpec.upto dfaLawsSpec)

/-- 'cracknellaw17.ShortTells', WHERE WHAT IT READS IS OF BULK AT MOST 1048576: true; the input reads as it did. -/
def shortTellsUptoRow : OpenClaim := { program := "ytmpcoclgcldclaa", sum := "35e42241c9de420c551b76b44731675e55ce44049c6da7067db78f4b98d38b72", func := "cracknel/cracknellaw17.ShortTells", spec := "shortTells", unfollowed := true, recurses := true, plainKeys := false, apart := false, narrowed := true }
def ShortTellsUptoSaid : Prop := shortTellsUptoRow.holds Try.pinned (OpenSpec.upto shortTellsSpec)

/-- 'cracknellaw17.ShortBounds', WHERE WHAT IT READS IS OF BULK AT MOST 1048576: true; the input reads as it did. -/
def shortBoundsUptoRow : OpenClaim := { program := "ytmpcoclgcldclaa", sum := "35e42241c9de420c551b76b44731675e55ce44049c6da7067db78f4b98d38b72", func := "cracknel/cracknellaw17.ShortBounds", spec := "shortBounds", unfollowed := true, recurses := true, plainKeys := false, apart := false, narrowed := true }
def ShortBoundsUptoSaid : Prop := shortBoundsUptoRow.holds Try.pinned (OpenSpec.upto shortBoundsSpec)

/-- 'cracknellaw17.ShortCosts', WHERE WHAT IT READS IS OF BULK AT MOST 1048576: true; the input reads as it did. -/
def shortCostsUptoRow : OpenClaim := { program := "ytmpcoclgcldclaa", sum := "35e42241c9de420c551b76b44731675e55ce44049c6da7067db78f4b98d38b72", func := "cracknel/cracknellaw17.ShortCosts", spec := "shortCosts", unfollowed := true, recurses := true, plainKeys := false, apart := false, narrowed := true }
def ShortCostsUptoSaid : Prop := shortCostsUptoRow.holds Try.pinned (OpenSpec.upto shortCostsSpec)

/-- 'cracknellaw17.ShortLeast', WHERE WHAT IT READS IS OF BULK AT MOST 1048576: true; the input reads as it did. -/
def shortLeastUptoRow : OpenClaim := { program := "ytmpcoclgcldclaa", sum := "35e42241c9de420c551b76b44731675e55ce44049c6da7067db78f4b98d38b72", func := "cracknel/cracknellaw17.ShortLeast", spec := "shortLeast", unfollowed := true, recurses := true, plainKeys := false, apart := false, narrowed := true }
def ShortLeastUptoSaid : Prop := shortLeastUptoRow.holds Try.pinned (OpenSpec.upto shortLeastSpec)

/-- 'cracknellaw16.TightTells', WHERE WHAT IT READS IS OF BULK AT MOST 1048576: true; the input reads as it did. -/
def tightTellsUptoRow : OpenClaim := { program := "ytmpcoclgcldclaa", sum := "35e42241c9de420c551b76b44731675e55ce44049c6da7067db78f4b98d38b72", func := "cracknel/cracknellaw16.TightTells", spec := "tightTells", unfollowed := true, recurses := true, plainKeys := false, apart := false, narrowed := true }
def TightTellsUptoSaid : Prop := tightTellsUptoRow.holds Try.pinned (OpenSpec.upto tightTellsSpec)

/-- 'cracknellaw16.TightCounts', WHERE WHAT IT READS IS OF BULK AT MOST 1048576: true; the input reads as it did. -/
def tightCountsUptoRow : OpenClaim := { program := "ytmpcoclgcldclaa", sum := "35e42241c9de420c551b76b44731675e55ce44049c6da7067db78f4b98d38b72", func := "cracknel/cracknellaw16.TightCounts", spec := "tightCounts", unfollowed := true, recurses := true, plainKeys := false, apart := false, narrowed := true }
def TightCountsUptoSaid : Prop := tightCountsUptoRow.holds Try.pinned (OpenSpec.upto tightCountsSpec)

/-- 'cracknellaw16.TightLeast', WHERE WHAT IT READS IS OF BULK AT MOST 1048576: true; the input reads as it did. -/
def tightLeastUptoRow : OpenClaim := { program := "ytmpcoclgcldclaa", sum := "35e42241c9de420c551b76b44731675e55ce44049c6da7067db78f4b98d38b72", func := "cracknel/cracknellaw16.TightLeast", spec := "tightLeast", unfollowed := true, recurses := true, plainKeys := false, apart := false, narrowed := true }
def TightLeastUptoSaid : Prop := tightLeastUptoRow.holds Try.pinned (OpenSpec.upto tightLeastSpec)

/-- 'cracknellaw16.TightSums', WHERE WHAT IT READS IS OF BULK AT MOST 1048576: true; the input reads as it did. -/
def tightSumsUptoRow : OpenClaim := { program := "ytmpcoclgcldclaa", sum := "35e42241c9de420c551b76b44731675e55ce44049c6da7067db78f4b98d38b72", func := "cracknel/cracknellaw16.TightSums", spec := "tightSums", unfollowed := true, recurses := true, plainKeys := false, apart := false, narrowed := true }
def TightSumsUptoSaid : Prop := tightSumsUptoRow.holds Try.pinned (OpenSpec.upto tightSumsSpec)

/-- 'cracknellaw16.TightCompares', WHERE WHAT IT READS IS OF BULK AT MOST 1048576: true; the input reads as it did. -/
def tightComparesUptoRow : OpenClaim := { program := "ytmpcoclgcldclaa", sum := "35e42241c9de420c551b76b44731675e55ce44049c6da7067db78f4b98d38b72", func := "cracknel/cracknellaw16.TightCompares", spec := "tightCompares", unfollowed := true, recurses := true, plainKeys := false, apart := false, narrowed := true }
def TightComparesUptoSaid : Prop := tightComparesUptoRow.holds Try.pinned (OpenSpec.upto tightComparesSpec)

/-- 'cracknellaw16.TightOrders', WHERE WHAT IT READS IS OF BULK AT MOST 1048576: true; the input reads as it did. -/
def tightOrdersUptoRow : OpenClaim := { program := "ytmpcoclgcldclaa", sum := "35e42241c9de420c551b76b44731675e55ce44049c6da7067db78f4b98d38b72", func := "cracknel/cracknellaw16.TightOrders", spec := "tightOrders", unfollowed := true, recurses := true, plainKeys := false, apart := false, narrowed := true }
def TightOrdersUptoSaid : Prop := tightOrdersUptoRow.holds Try.pinned (OpenSpec.upto tightOrdersSpec)

/-- 'cracknellaw19.PathsetPaths', WHERE WHAT IT READS IS OF BULK AT MOST 1048576: true; the input reads as it did. -/
def pathsetPathsUptoRow : OpenClaim := { program := "ytmpcoclgcldclaa", sum := "35e42241c9de420c551b76b44731675e55ce44049c6da7067db78f4b98d38b72", func := "cracknel/cracknellaw19.PathsetPaths", spec := "pathsetPaths", inPlace := ["internal/bytealg.IndexByteString"], unfollowed := true, recurses := true, plainKeys := false, apart := false, narrowed := true }
def PathsetPathsUptoSaid : Prop := pathsetPathsUptoRow.holds Try.pinned (OpenSpec.upto pathsetPathsSpec)

/-- 'cracknellaw19.PathsetMatch', WHERE WHAT IT READS IS OF BULK AT MOST 1048576: true; the input reads as it did. -/
def pathsetMatchUptoRow : OpenClaim := { program := "ytmpcoclgcldclaa", sum := "35e42241c9de420c551b76b44731675e55ce44049c6da7067db78f4b98d38b72", func := "cracknel/cracknellaw19.PathsetMatch", spec := "pathsetMatch", inPlace := ["internal/bytealg.IndexByteString"], unfollowed := true, recurses := true, plainKeys := false, apart := false, narrowed := true }
def PathsetMatchUptoSaid : Prop := pathsetMatchUptoRow.holds Try.pinned (OpenSpec.upto pathsetMatchSpec)

/-- 'cracknellaw19.PathsetWords', WHERE WHAT IT READS IS OF BULK AT MOST 1048576: true; the input reads as it did. -/
def pathsetWordsUptoRow : OpenClaim := { program := "ytmpcoclgcldclaa", sum := "35e42241c9de420c551b76b44731675e55ce44049c6da7067db78f4b98d38b72", func := "cracknel/cracknellaw19.PathsetWords", spec := "pathsetWords", inPlace := ["internal/bytealg.IndexByteString"], unfollowed := true, recurses := true, plainKeys := false, apart := false, narrowed := true }
def PathsetWordsUptoSaid : Prop := pathsetWordsUptoRow.holds Try.pinned (OpenSpec.upto pathsetWordsSpec)

/-- 'cracknellaw19.PathsetLeast', WHERE WHAT IT READS IS OF BULK AT MOST 1048576: true; the input reads as it did. -/
def pathsetLeastUptoRow : OpenClaim := { program := "ytmpcoclgcldclaa", sum := "35e42241c9de420c551b76b44731675e55ce44049c6da7067db78f4b98d38b72", func := "cracknel/cracknellaw19.PathsetLeast", spec := "pathsetLeast", inPlace := ["internal/bytealg.IndexByteString"], unfollowed := true, recurses := true, plainKeys := false, apart := false, narrowed := true }
def PathsetLeastUptoSaid : Prop := pathsetLeastUptoRow.holds Try.pinned (OpenSpec.upto pathsetLeastSpec)

/-- 'cracknellaw19.PathsetPrefix', WHERE WHAT IT READS IS OF BULK AT MOST 1048576: true; the input reads as it did. -/
def pathsetPrefixUptoRow : OpenClaim := { program := "ytmpcoclgcldclaa", sum := "35e42241c9de420c551b76b44731675e55ce44049c6da7067db78f4b98d38b72", func := "cracknel/cracknellaw19.PathsetPrefix", spec := "pathsetPrefix", inPlace := ["internal/bytealg.IndexByteString"], unfollowed := true, recurses := true, plainKeys := false, apart := false, narrowed := true }
def PathsetPrefixUptoSaid : Prop := pathsetPrefixUptoRow.holds Try.pinned (OpenSpec.upto pathsetPrefixSpec)

/-- 'cracknellaw19.PathsetBack', WHERE WHAT IT READS IS OF BULK AT MOST 1048576: true; the input reads as it did. -/
def pathsetBackUptoRow : OpenClaim := { program := "ytmpcoclgcldclaa", sum := "35e42241c9de420c551b76b44731675e55ce44049c6da7067db78f4b98d38b72", func := "cracknel/cracknellaw19.PathsetBack", spec := "pathsetBack", inPlace := ["internal/bytealg.IndexByteString"], unfollowed := true, recurses := true, plainKeys := false, apart := false, narrowed := true }
def PathsetBackUptoSaid : Prop := pathsetBackUptoRow.holds Try.pinned (OpenSpec.upto pathsetBackSpec)

end Rows
end Go.Proofs.Ytmpcoclgcldclaa
