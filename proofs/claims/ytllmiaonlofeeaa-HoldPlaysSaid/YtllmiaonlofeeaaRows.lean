/-
  No cell of these rows narrows 'for every input' (looked for: loops, veiled, ifaces, maps, wideKeys, modest, calm, conditions, laid).
  DERIVED. THE GIVEN ROWS OF THIS SEAT. 10 by the template 'for every input the law returns true; each argument reads behind the call as it read before'; 0 by the template 'total and deterministic' (their statements: YtllmiaonlofeeaaTotals.lean).
  GIVEN WITH THE SEED: the statements are not yours to turn. If you find one false, say at which input.
  Laid BY PROGRAM, IN A SANDBOX (cutbox-rows.mjs): the forced cells as the released guide's own fill.sh prints them over the translation d3ffe54235232978… (all of the seat's roots in one cut). By AI agents, Wed Nov 11 2026. No macro, syntax, notation, axiom, sorry.
-/
import Derived.Test.YtllmiaonlofeeaaChecked
import GoSem.Claim
import GoSem.ClaimJoined
import GoSem.ClaimMapViews
import Derived.JoinedTies
import Derived.KernelRfl
namespace Go.Proofs.Ytllmiaonlofeeaa
/- THE CELL 'sum', in the pinned program and in every row, IS THE sha256 OF THE DUMP (.gsa) THAT YtllmiaonlofeeaaProg.lean LOADS. Nothing in Lean hashes anything: it is a label: what it is worth is what the hold of that sum in a sandbox is worth. -/
noncomputable def Try.pinned : Pinned := { name := "ytllmiaonlofeeaa", sum := "d3ffe54235232978cf5af6f2b70ae1d3c5735d263f0e7646bfc1fdcc86962084", checked := Try.checked }
namespace Rows
def none {H : Type} : Left H := { results := [], args := [] }

/-- 'consortlaw03.KeySorts': WHATEVER THE INPUT: true; the input reads as it did. -/
def keySortsSpec : ChangeSpec := { name := "keySorts", fn := fun _ => fun
  | [d] => { results := [.lit (.bool true)], args := [d] }
  | _ => none }
def keySortsRow : OpenClaim := { program := "ytllmiaonlofeeaa", sum := "d3ffe54235232978cf5af6f2b70ae1d3c5735d263f0e7646bfc1fdcc86962084", func := "consort/consortlaw03.KeySorts", spec := "keySorts", unfollowed := true, recurses := true, apart := false }
def KeySortsSaid : Prop := keySortsRow.holds Try.pinned (OpenSpec.ofChange keySortsSpec)

/-- ITS FALSE NEIGHBOUR: 'it returns false'. Refute it at one input. -/
def keySortsWrong : ChangeSpec := { name := "keySorts", fn := fun _ => fun
  | [d] => { results := [.lit (.bool false)], args := [d] }
  | _ => none }
def KeySortsWrongFalsely : Prop := keySortsRow.holds Try.pinned (OpenSpec.ofChange keySortsWrong)

/-- 'consortlaw03.KeyTotal': WHATEVER THE INPUT: true; the input reads as it did. -/
def keyTotalSpec : ChangeSpec := { name := "keyTotal", fn := fun _ => fun
  | [d1, d2, d3, d4, d5, d6] => { results := [.lit (.bool true)], args := [d1, d2, d3, d4, d5, d6] }
  | _ => none }
def keyTotalRow : OpenClaim := { program := "ytllmiaonlofeeaa", sum := "d3ffe54235232978cf5af6f2b70ae1d3c5735d263f0e7646bfc1fdcc86962084", func := "consort/consortlaw03.KeyTotal", spec := "keyTotal", unfollowed := true, recurses := true, apart := false }
def KeyTotalSaid : Prop := keyTotalRow.holds Try.pinned (OpenSpec.ofChange keyTotalSpec)

/-- ITS FALSE NEIGHBOUR: 'it returns false'. Refute it at one input. -/
def keyTotalWrong : ChangeSpec := { name := "keyTotal", fn := fun _ => fun
  | [d1, d2, d3, d4, d5, d6] => { results := [.lit (.bool false)], args := [d1, d2, d3, d4, d5, d6] }
  | _ => none }
def KeyTotalWrongFalsely : Prop := keyTotalRow.holds Try.pinned (OpenSpec.ofChange keyTotalWrong)

/-- 'consortlaw03.KeyAbove': WHATEVER THE INPUT: true; the input reads as it did. -/
def keyAboveSpec : ChangeSpec := { name := "keyAbove", fn := fun _ => fun
  | [d] => { results := [.lit (.bool true)], args := [d] }
  | _ => none }
def keyAboveRow : OpenClaim := { program := "ytllmiaonlofeeaa", sum := "d3ffe54235232978cf5af6f2b70ae1d3c5735d263f0e7646bfc1fdcc86962084", func := "consort/consortlaw03.KeyAbove", spec := "keyAbove", unfollowed := true, recurses := true, apart := false }
def KeyAboveSaid : Prop := keyAboveRow.holds Try.pinned (OpenSpec.ofChange keyAboveSpec)

/-- ITS FALSE NEIGHBOUR: 'it returns false'. Refute it at one input. -/
def keyAboveWrong : ChangeSpec := { name := "keyAbove", fn := fun _ => fun
  | [d] => { results := [.lit (.bool false)], args := [d] }
  | _ => none }
def KeyAboveWrongFalsely : Prop := keyAboveRow.holds Try.pinned (OpenSpec.ofChange keyAboveWrong)

/-- 'consortlaw03.KeySteady': WHATEVER THE INPUT: true; the input reads as it did. -/
def keySteadySpec : ChangeSpec := { name := "keySteady", fn := fun _ => fun
  | [d] => { results := [.lit (.bool true)], args := [d] }
  | _ => none }
def keySteadyRow : OpenClaim := { program := "ytllmiaonlofeeaa", sum := "d3ffe54235232978cf5af6f2b70ae1d3c5735d263f0e7646bfc1fdcc86962084", func := "consort/consortlaw03.KeySteady", spec := "keySteady", unfollowed := true, recurses := true, apart := false }
def KeySteadySaid : Prop := keySteadyRow.holds Try.pinned (OpenSpec.ofChange keySteadySpec)

/-- ITS FALSE NEIGHBOUR: 'it returns false'. Refute it at one input. -/
def keySteadyWrong : ChangeSpec := { name := "keySteady", fn := fun _ => fun
  | [d] => { results := [.lit (.bool false)], args := [d] }
  | _ => none }
def KeySteadyWrongFalsely : Prop := keySteadyRow.holds Try.pinned (OpenSpec.ofChange keySteadyWrong)

/-- 'consortlaw03.KeyOrders': WHATEVER THE INPUT: true; the input reads as it did. -/
def keyOrdersSpec : ChangeSpec := { name := "keyOrders", fn := fun _ => fun
  | [d1, d2, d3, d4, d5, d6, d7] => { results := [.lit (.bool true)], args := [d1, d2, d3, d4, d5, d6, d7] }
  | _ => none }
def keyOrdersRow : OpenClaim := { program := "ytllmiaonlofeeaa", sum := "d3ffe54235232978cf5af6f2b70ae1d3c5735d263f0e7646bfc1fdcc86962084", func := "consort/consortlaw03.KeyOrders", spec := "keyOrders", unfollowed := true, recurses := true, apart := false }
def KeyOrdersSaid : Prop := keyOrdersRow.holds Try.pinned (OpenSpec.ofChange keyOrdersSpec)

/-- ITS FALSE NEIGHBOUR: 'it returns false'. Refute it at one input. -/
def keyOrdersWrong : ChangeSpec := { name := "keyOrders", fn := fun _ => fun
  | [d1, d2, d3, d4, d5, d6, d7] => { results := [.lit (.bool false)], args := [d1, d2, d3, d4, d5, d6, d7] }
  | _ => none }
def KeyOrdersWrongFalsely : Prop := keyOrdersRow.holds Try.pinned (OpenSpec.ofChange keyOrdersWrong)

/-- 'consortlaw03.KeyTurned': WHATEVER THE INPUT: true; the input reads as it did. -/
def keyTurnedSpec : ChangeSpec := { name := "keyTurned", fn := fun _ => fun
  | [d1, d2, d3] => { results := [.lit (.bool true)], args := [d1, d2, d3] }
  | _ => none }
def keyTurnedRow : OpenClaim := { program := "ytllmiaonlofeeaa", sum := "d3ffe54235232978cf5af6f2b70ae1d3c5735d263f0e7646bfc1fdcc86962084", func := "consort/consortlaw03.KeyTurned", spec := "keyTurned", unfollowed := true, recurses := true, apart := false }
def KeyTurnedSaid : Prop := keyTurnedRow.holds Try.pinned (OpenSpec.ofChange keyTurnedSpec)

/-- ITS FALSE NEIGHBOUR: 'it returns false'. Refute it at one input. -/
def keyTurnedWrong : ChangeSpec := { name := "keyTurned", fn := fun _ => fun
  | [d1, d2, d3] => { results := [.lit (.bool false)], args := [d1, d2, d3] }
  | _ => none }
def KeyTurnedWrongFalsely : Prop := keyTurnedRow.holds Try.pinned (OpenSpec.ofChange keyTurnedWrong)

/-- 'consortlaw12.HoldPlays': WHATEVER THE INPUT: true; the input reads as it did. -/
def holdPlaysSpec : ChangeSpec := { name := "holdPlays", fn := fun _ => fun
  | [d1, d2, d3, d4, d5] => { results := [.lit (.bool true)], args := [d1, d2, d3, d4, d5] }
  | _ => none }
def holdPlaysRow : OpenClaim := { program := "ytllmiaonlofeeaa", sum := "d3ffe54235232978cf5af6f2b70ae1d3c5735d263f0e7646bfc1fdcc86962084", func := "consort/consortlaw12.HoldPlays", spec := "holdPlays", unfollowed := true, recurses := true, apart := false }
def HoldPlaysSaid : Prop := holdPlaysRow.holds Try.pinned (OpenSpec.ofChange holdPlaysSpec)

/-- ITS FALSE NEIGHBOUR: 'it returns false'. Refute it at one input. -/
def holdPlaysWrong : ChangeSpec := { name := "holdPlays", fn := fun _ => fun
  | [d1, d2, d3, d4, d5] => { results := [.lit (.bool false)], args := [d1, d2, d3, d4, d5] }
  | _ => none }
def HoldPlaysWrongFalsely : Prop := holdPlaysRow.holds Try.pinned (OpenSpec.ofChange holdPlaysWrong)

/-- 'consortlaw12.HoldBack': WHATEVER THE INPUT: true; the input reads as it did. -/
def holdBackSpec : ChangeSpec := { name := "holdBack", fn := fun _ => fun
  | [d1, d2] => { results := [.lit (.bool true)], args := [d1, d2] }
  | _ => none }
def holdBackRow : OpenClaim := { program := "ytllmiaonlofeeaa", sum := "d3ffe54235232978cf5af6f2b70ae1d3c5735d263f0e7646bfc1fdcc86962084", func := "consort/consortlaw12.HoldBack", spec := "holdBack", unfollowed := true, recurses := true, apart := false }
def HoldBackSaid : Prop := holdBackRow.holds Try.pinned (OpenSpec.ofChange holdBackSpec)

/-- ITS FALSE NEIGHBOUR: 'it returns false'. Refute it at one input. -/
def holdBackWrong : ChangeSpec := { name := "holdBack", fn := fun _ => fun
  | [d1, d2] => { results := [.lit (.bool false)], args := [d1, d2] }
  | _ => none }
def HoldBackWrongFalsely : Prop := holdBackRow.holds Try.pinned (OpenSpec.ofChange holdBackWrong)

/-- 'consortlaw12.HoldAbove': WHATEVER THE INPUT: true; the input reads as it did. -/
def holdAboveSpec : ChangeSpec := { name := "holdAbove", fn := fun _ => fun
  | [d1, d2] => { results := [.lit (.bool true)], args := [d1, d2] }
  | _ => none }
def holdAboveRow : OpenClaim := { program := "ytllmiaonlofeeaa", sum := "d3ffe54235232978cf5af6f2b70ae1d3c5735d263f0e7646bfc1fdcc86962084", func := "consort/consortlaw12.HoldAbove", spec := "holdAbove", unfollowed := true, recurses := true, apart := false }
def HoldAboveSaid : Prop := holdAboveRow.holds Try.pinned (OpenSpec.ofChange holdAboveSpec)

/-- ITS FALSE NEIGHBOUR: 'it returns false'. Refute it at one input. -/
def holdAboveWrong : ChangeSpec := { name := "holdAbove", fn := fun _ => fun
  | [d1, d2] => { results := [.lit (.bool false)], args := [d1, d2] }
  | _ => none }
def HoldAboveWrongFalsely : Prop := holdAboveRow.holds Try.pinned (OpenSpec.ofChange holdAboveWrong)

/-- 'consortlaw12.HoldCopies': WHATEVER THE INPUT: true; the input reads as it did. -/
def holdCopiesSpec : ChangeSpec := { name := "holdCopies", fn := fun _ => fun
  | [d1, d2] => { results := [.lit (.bool true)], args := [d1, d2] }
  | _ => none }
def holdCopiesRow : OpenClaim := { program := "ytllmiaonlofeeaa", sum := "d3ffe54235232978cf5af6f2b70ae1d3c5735d263f0e7646bfc1fdcc86962084", func := "consort/consortlaw12.HoldCopies", spec := "holdCopies", unfollowed := true, recurses := true, apart := false }
def HoldCopiesSaid : Prop := holdCopiesRow.holds Try.pinned (OpenSpec.ofChange holdCopiesSpec)

/-- ITS FALSE NEIGHBOUR: 'it returns false'. Refute it at one input. -/
def holdCopiesWrong : ChangeSpec := { name := "holdCopies", fn := fun _ => fun
  | [d1, d2] => { results := [.lit (.bool false)], args := [d1, d2] }
  | _ => none }
def HoldCopiesWrongFalsely : Prop := holdCopiesRow.holds Try.pinned (OpenSpec.ofChange holdCopiesWrong)

/- THE SECOND FORM. 'bulk': how many values and letters a reading holds, each counted each time it is reached (what is shared counts as often as it is met; a slice's spare places count too). A statement '..UptoSaid' is the law's where the arguments, and the package variables that the reading takes, are together of bulk at most 1048576: NARROWER than '..Said'. Prove '..Said' where nothing that the law and all that it calls make is longer than what came in: it says more and counts as full. Else prove '..UptoSaid'. A law counts once. -/
mutual
def uptoBulk {H : Type} : DataW H → Nat
  | .lit (.string bytes) => bytes.length + 1
  | .lit _ => 1
  | .nil => 1
  | .ptr d => uptoBulk d + 1
  | .slice elems spare => uptoBulkAll elems + uptoBulkAll spare + 1
  | .agg parts => uptoBulkAll parts + 1
  | .iface _ d => uptoBulk d + 1
  | .map entries => uptoBulkEntries entries + 1
  | .held _ => 1
def uptoBulkAll {H : Type} : List (DataW H) → Nat
  | [] => 0
  | d :: r => uptoBulk d + uptoBulkAll r
def uptoBulkEntries {H : Type} : List (Lit × DataW H) → Nat
  | [] => 0
  | x :: r => uptoBulkEntry x + uptoBulkEntries r
def uptoBulkEntry {H : Type} : Lit × DataW H → Nat
  | (.string bytes, d) => bytes.length + uptoBulk d + 1
  | (_, d) => uptoBulk d + 1
 end
def uptoSmall : (H : Type) → List (DataW H) → Bool := fun _ ds => decide (uptoBulkAll ds ≤ 1048576)
def OpenSpec.upto (s : _root_.Go.ChangeSpec) : _root_.Go.OpenSpec := { _root_.Go.OpenSpec.ofChange s with cond := some uptoSmall }

/-- 'consortlaw03.KeySorts', WHERE WHAT IT READS IS OF BULK AT MOST 1048576: true; the input reads as it did. -/
def keySortsUptoRow : OpenClaim := { program := "ytllmiaonlofeeaa", sum := "d3ffe54235232978cf5af6f2b70ae1d3c5735d263f0e7646bfc1fdcc86962084", func := "consort/consortlaw03.KeySorts", spec := "keySorts", unfollowed := true, recurses := true, apart := false, narrowed := true }
def KeySortsUptoSaid : Prop := keySortsUptoRow.holds Try.pinned (OpenSpec.upto keySortsSpec)

/-- 'consortlaw03.KeyTotal', WHERE WHAT IT READS IS OF BULK AT MOST 1048576: true; the input reads as it did. -/
def keyTotalUptoRow : OpenClaim := { program := "ytllmiaonlofeeaa", sum := "d3ffe54235232978cf5af6f2b70ae1d3c5735d263f0e7646bfc1fdcc86962084", func := "consort/consortlaw03.KeyTotal", spec := "keyTotal", unfollowed := true, recurses := true, apart := false, narrowed := true }
def KeyTotalUptoSaid : Prop := keyTotalUptoRow.holds Try.pinned (OpenSpec.upto keyTotalSpec)

/-- 'consortlaw03.KeyAbove', WHERE WHAT IT READS IS OF BULK AT MOST 1048576: true; the input reads as it did. -/
def keyAboveUptoRow : OpenClaim := { program := "ytllmiaonlofeeaa", sum := "d3ffe54235232978cf5af6f2b70ae1d3c5735d263f0e7646bfc1fdcc86962084", func := "consort/consortlaw03.KeyAbove", spec := "keyAbove", unfollowed := true, recurses := true, apart := false, narrowed := true }
def KeyAboveUptoSaid : Prop := keyAboveUptoRow.holds Try.pinned (OpenSpec.upto keyAboveSpec)

/-- 'consortlaw03.KeySteady', WHERE WHAT IT READS IS OF BULK AT MOST 1048576: true; the input reads as it did. -/
def keySteadyUptoRow : OpenClaim := { program := "ytllmiaonlofeeaa", sum := "d3ffe54235232978cf5af6f2b70ae1d3c5735d263f0e7646bfc1fdcc86962084", func := "consort/consortlaw03.KeySteady", spec := "keySteady", unfollowed := true, recurses := true, apart := false, narrowed := true }
def KeySteadyUptoSaid : Prop := keySteadyUptoRow.holds Try.pinned (OpenSpec.upto keySteadySpec)

/-- 'consortlaw03.KeyOrders', WHERE WHAT IT READS IS OF BULK AT MOST 1048576: true; the input reads as it did. -/
def keyOrdersUptoRow : OpenClaim := { program := "ytllmiaonlofeeaa", sum := "d3ffe54235232978cf5af6f2b70ae1d3c5735d263f0e7646bfc1fdcc86962084", func := "consort/consortlaw03.KeyOrders", spec := "keyOrders", unfollowed := true, recurses := true, apart := false, narrowed := true }
def KeyOrdersUptoSaid : Prop := keyOrdersUptoRow.holds Try.pinned (OpenSpec.upto keyOrdersSpec)

/-- 'consortlaw03.KeyTurned', WHERE WHAT IT READS IS OF BULK AT MOST 1048576: true; the input reads as it did. -/
def keyTurnedUptoRow : OpenClaim := { program := "ytllmiaonlofeeaa", sum := "d3ffe54235232978cf5af6f2b70ae1d3c5735d263f0e7646bfc1fdcc86962084", func := "consort/consortlaw03.KeyTurned", spec := "keyTurned", unfollowed := true, recurses := true, apart := false, narrowed := true }
def KeyTurnedUptoSaid : Prop := keyTurnedUptoRow.holds Try.pinned (OpenSpec.upto keyTurnedSpec)

/-- 'consortlaw12.HoldPlays', WHERE WHAT IT READS IS OF BULK AT MOST 1048576: true; the input reads as it did. -/
def holdPlaysUptoRow : OpenClaim := { program := "ytllmiaonlofeeaa", sum := "d3ffe54235232978cf5af6f2b70ae1d3c5735d263f0e7646bfc1fdcc86962084", func := "consort/consortlaw12.HoldPlays", spec := "holdPlays", unfollowed := true, recurses := true, apart := false, narrowed := true }
def HoldPlaysUptoSaid : Prop := holdPlaysUptoRow.holds Try.pinned (OpenSpec.upto holdPlaysSpec)

/-- 'consortlaw12.HoldBack', WHERE WHAT IT READS IS OF BULK AT MOST 1048576: true; the input reads as it did. -/
def holdBackUptoRow : OpenClaim := { program := "ytllmiaonlofeeaa", sum := "d3ffe54235232978cf5af6f2b70ae1d3c5735d263f0e7646bfc1fdcc86962084", func := "consort/consortlaw12.HoldBack", spec := "holdBack", unfollowed := true, recurses := true, apart := false, narrowed := true }
def HoldBackUptoSaid : Prop := holdBackUptoRow.holds Try.pinned (OpenSpec.upto holdBackSpec)

/-- 'consortlaw12.HoldAbove', WHERE WHAT IT READS IS OF BULK AT MOST 1048576: true; the input reads as it did. -/
def holdAboveUptoRow : OpenClaim := { program := "ytllmiaonlofeeaa", sum := "d3ffe54235232978cf5af6f2b70ae1d3c5735d263f0e7646bfc1fdcc86962084", func := "consort/consortlaw12.HoldAbove", spec := "holdAbove", unfollowed := true, recurses := true, apart := false, narrowed := true }
def HoldAboveUptoSaid : Prop := holdAboveUptoRow.holds Try.pinned (OpenSpec.upto holdAboveSpec)

/-- 'consortlaw12.HoldCopies', WHERE WHAT IT READS IS OF BULK AT MOST 1048576: true; the input reads as it did. -/
def holdCopiesUptoRow : OpenClaim := { program := "ytllmiaonlofeeaa", sum := "d3ffe54235232978cf5af6f2b70ae1d3c5735d263f0e7646bfc1fdcc86962084", func := "consort/consortlaw12.HoldCopies", spec := "holdCopies", unfollowed := true, recurses := true, apart := false, narrowed := true }
def HoldCopiesUptoSaid : Prop := holdCopiesUptoRow.holds Try.pinned (OpenSpec.upto holdCopiesSpec)

end Rows
end Go.Proofs.Ytllmiaonlofeeaa
