/-
  No cell of these rows narrows 'for every input' (looked for: loops, veiled, ifaces, maps, wideKeys, modest, calm, conditions, laid).
  DERIVED. THE GIVEN ROWS OF THIS SEAT. 12 by the template 'for every input the law returns true; each argument reads behind the call as it read before'; 0 by the template 'total and deterministic' (their statements: YtmnhoglkahmlaaaTotals.lean).
  GIVEN WITH THE SEED: the statements are not yours to turn. If you find one false, say at which input.
  Laid BY PROGRAM, IN A SANDBOX (cutbox-rows.mjs): the forced cells as the released guide's own fill.sh prints them over the translation 80db4eaacf90fb5b… (all of the seat's roots in one cut). By AI agents, Wed Nov 11 2026. No macro, syntax, notation, axiom, sorry.
-/
import Derived.Test.YtmnhoglkahmlaaaChecked
import GoSem.Claim
import GoSem.ClaimJoined
import GoSem.ClaimMapViews
import Derived.JoinedTies
import Derived.KernelRfl
namespace Go.Proofs.Ytmnhoglkahmlaaa
/- THE CELL 'sum', in the pinned program and in every row, IS THE sha256 OF THE DUMP (.gsa) THAT YtmnhoglkahmlaaaProg.lean LOADS. Nothing in Lean hashes anything: it is a label: what it is worth is what the hold of that sum in a sandbox is worth. -/
noncomputable def Try.pinned : Pinned := { name := "ytmnhoglkahmlaaa", sum := "80db4eaacf90fb5bf33a3ea41f68a5067771d96ca49535ea3e42abd4a85b929d", checked := Try.checked }
namespace Rows
def none {H : Type} : Left H := { results := [], args := [] }

/-- 'laws.FnExactConstants': WHATEVER THE INPUT: true; the input reads as it did. -/
def fnExactConstantsSpec : ChangeSpec := { name := "fnExactConstants", fn := fun _ => fun
  | [] => { results := [.lit (.bool true)], args := [] }
  | _ => none }
def fnExactConstantsRow : OpenClaim := { program := "ytmnhoglkahmlaaa", sum := "80db4eaacf90fb5bf33a3ea41f68a5067771d96ca49535ea3e42abd4a85b929d", func := "loop.example/s0035/laws.FnExactConstants", spec := "fnExactConstants", apart := false }
def FnExactConstantsSaid : Prop := fnExactConstantsRow.holds Try.pinned (OpenSpec.ofChange fnExactConstantsSpec)

/-- ITS FALSE NEIGHBOUR: 'it returns false'. Refute it at one input. -/
def fnExactConstantsWrong : ChangeSpec := { name := "fnExactConstants", fn := fun _ => fun
  | [] => { results := [.lit (.bool false)], args := [] }
  | _ => none }
def FnExactConstantsWrongFalsely : Prop := fnExactConstantsRow.holds Try.pinned (OpenSpec.ofChange fnExactConstantsWrong)

/-- 'laws.FnExactNot3': WHATEVER THE INPUT: true; the input reads as it did. -/
def fnExactNot3Spec : ChangeSpec := { name := "fnExactNot3", fn := fun _ => fun
  | [d] => { results := [.lit (.bool true)], args := [d] }
  | _ => none }
def fnExactNot3Row : OpenClaim := { program := "ytmnhoglkahmlaaa", sum := "80db4eaacf90fb5bf33a3ea41f68a5067771d96ca49535ea3e42abd4a85b929d", func := "loop.example/s0035/laws.FnExactNot3", spec := "fnExactNot3", apart := false }
def FnExactNot3Said : Prop := fnExactNot3Row.holds Try.pinned (OpenSpec.ofChange fnExactNot3Spec)

/-- ITS FALSE NEIGHBOUR: 'it returns false'. Refute it at one input. -/
def fnExactNot3Wrong : ChangeSpec := { name := "fnExactNot3", fn := fun _ => fun
  | [d] => { results := [.lit (.bool false)], args := [d] }
  | _ => none }
def FnExactNot3WrongFalsely : Prop := fnExactNot3Row.holds Try.pinned (OpenSpec.ofChange fnExactNot3Wrong)

/-- 'laws.FnExactCmp3': WHATEVER THE INPUT: true; the input reads as it did. -/
def fnExactCmp3Spec : ChangeSpec := { name := "fnExactCmp3", fn := fun _ => fun
  | [d1, d2, d3] => { results := [.lit (.bool true)], args := [d1, d2, d3] }
  | _ => none }
def fnExactCmp3Row : OpenClaim := { program := "ytmnhoglkahmlaaa", sum := "80db4eaacf90fb5bf33a3ea41f68a5067771d96ca49535ea3e42abd4a85b929d", func := "loop.example/s0035/laws.FnExactCmp3", spec := "fnExactCmp3", apart := false }
def FnExactCmp3Said : Prop := fnExactCmp3Row.holds Try.pinned (OpenSpec.ofChange fnExactCmp3Spec)

/-- ITS FALSE NEIGHBOUR: 'it returns false'. Refute it at one input. -/
def fnExactCmp3Wrong : ChangeSpec := { name := "fnExactCmp3", fn := fun _ => fun
  | [d1, d2, d3] => { results := [.lit (.bool false)], args := [d1, d2, d3] }
  | _ => none }
def FnExactCmp3WrongFalsely : Prop := fnExactCmp3Row.holds Try.pinned (OpenSpec.ofChange fnExactCmp3Wrong)

/-- 'laws.FnExactAnd3': WHATEVER THE INPUT: true; the input reads as it did. -/
def fnExactAnd3Spec : ChangeSpec := { name := "fnExactAnd3", fn := fun _ => fun
  | [d1, d2] => { results := [.lit (.bool true)], args := [d1, d2] }
  | _ => none }
def fnExactAnd3Row : OpenClaim := { program := "ytmnhoglkahmlaaa", sum := "80db4eaacf90fb5bf33a3ea41f68a5067771d96ca49535ea3e42abd4a85b929d", func := "loop.example/s0035/laws.FnExactAnd3", spec := "fnExactAnd3", apart := false }
def FnExactAnd3Said : Prop := fnExactAnd3Row.holds Try.pinned (OpenSpec.ofChange fnExactAnd3Spec)

/-- ITS FALSE NEIGHBOUR: 'it returns false'. Refute it at one input. -/
def fnExactAnd3Wrong : ChangeSpec := { name := "fnExactAnd3", fn := fun _ => fun
  | [d1, d2] => { results := [.lit (.bool false)], args := [d1, d2] }
  | _ => none }
def FnExactAnd3WrongFalsely : Prop := fnExactAnd3Row.holds Try.pinned (OpenSpec.ofChange fnExactAnd3Wrong)

/-- 'laws.FnExactOr3': WHATEVER THE INPUT: true; the input reads as it did. -/
def fnExactOr3Spec : ChangeSpec := { name := "fnExactOr3", fn := fun _ => fun
  | [d1, d2] => { results := [.lit (.bool true)], args := [d1, d2] }
  | _ => none }
def fnExactOr3Row : OpenClaim := { program := "ytmnhoglkahmlaaa", sum := "80db4eaacf90fb5bf33a3ea41f68a5067771d96ca49535ea3e42abd4a85b929d", func := "loop.example/s0035/laws.FnExactOr3", spec := "fnExactOr3", apart := false }
def FnExactOr3Said : Prop := fnExactOr3Row.holds Try.pinned (OpenSpec.ofChange fnExactOr3Spec)

/-- ITS FALSE NEIGHBOUR: 'it returns false'. Refute it at one input. -/
def fnExactOr3Wrong : ChangeSpec := { name := "fnExactOr3", fn := fun _ => fun
  | [d1, d2] => { results := [.lit (.bool false)], args := [d1, d2] }
  | _ => none }
def FnExactOr3WrongFalsely : Prop := fnExactOr3Row.holds Try.pinned (OpenSpec.ofChange fnExactOr3Wrong)

/-- 'laws.FnExactRowCmp': WHATEVER THE INPUT: true; the input reads as it did. -/
def fnExactRowCmpSpec : ChangeSpec := { name := "fnExactRowCmp", fn := fun _ => fun
  | [d1, d2] => { results := [.lit (.bool true)], args := [d1, d2] }
  | _ => none }
def fnExactRowCmpRow : OpenClaim := { program := "ytmnhoglkahmlaaa", sum := "80db4eaacf90fb5bf33a3ea41f68a5067771d96ca49535ea3e42abd4a85b929d", func := "loop.example/s0035/laws.FnExactRowCmp", spec := "fnExactRowCmp", recurses := true, apart := false }
def FnExactRowCmpSaid : Prop := fnExactRowCmpRow.holds Try.pinned (OpenSpec.ofChange fnExactRowCmpSpec)

/-- ITS FALSE NEIGHBOUR: 'it returns false'. Refute it at one input. -/
def fnExactRowCmpWrong : ChangeSpec := { name := "fnExactRowCmp", fn := fun _ => fun
  | [d1, d2] => { results := [.lit (.bool false)], args := [d1, d2] }
  | _ => none }
def FnExactRowCmpWrongFalsely : Prop := fnExactRowCmpRow.holds Try.pinned (OpenSpec.ofChange fnExactRowCmpWrong)

/-- 'laws.FnExactExOk': WHATEVER THE INPUT: true; the input reads as it did. -/
def fnExactExOkSpec : ChangeSpec := { name := "fnExactExOk", fn := fun _ => fun
  | [d1, d2] => { results := [.lit (.bool true)], args := [d1, d2] }
  | _ => none }
def fnExactExOkRow : OpenClaim := { program := "ytmnhoglkahmlaaa", sum := "80db4eaacf90fb5bf33a3ea41f68a5067771d96ca49535ea3e42abd4a85b929d", func := "loop.example/s0035/laws.FnExactExOk", spec := "fnExactExOk", apart := false }
def FnExactExOkSaid : Prop := fnExactExOkRow.holds Try.pinned (OpenSpec.ofChange fnExactExOkSpec)

/-- ITS FALSE NEIGHBOUR: 'it returns false'. Refute it at one input. -/
def fnExactExOkWrong : ChangeSpec := { name := "fnExactExOk", fn := fun _ => fun
  | [d1, d2] => { results := [.lit (.bool false)], args := [d1, d2] }
  | _ => none }
def FnExactExOkWrongFalsely : Prop := fnExactExOkRow.holds Try.pinned (OpenSpec.ofChange fnExactExOkWrong)

/-- 'laws.FnExactDbOk': WHATEVER THE INPUT: true; the input reads as it did. -/
def fnExactDbOkSpec : ChangeSpec := { name := "fnExactDbOk", fn := fun _ => fun
  | [d] => { results := [.lit (.bool true)], args := [d] }
  | _ => none }
def fnExactDbOkRow : OpenClaim := { program := "ytmnhoglkahmlaaa", sum := "80db4eaacf90fb5bf33a3ea41f68a5067771d96ca49535ea3e42abd4a85b929d", func := "loop.example/s0035/laws.FnExactDbOk", spec := "fnExactDbOk", apart := false }
def FnExactDbOkSaid : Prop := fnExactDbOkRow.holds Try.pinned (OpenSpec.ofChange fnExactDbOkSpec)

/-- ITS FALSE NEIGHBOUR: 'it returns false'. Refute it at one input. -/
def fnExactDbOkWrong : ChangeSpec := { name := "fnExactDbOk", fn := fun _ => fun
  | [d] => { results := [.lit (.bool false)], args := [d] }
  | _ => none }
def FnExactDbOkWrongFalsely : Prop := fnExactDbOkRow.holds Try.pinned (OpenSpec.ofChange fnExactDbOkWrong)

/-- 'laws.FnExactEvalEx': WHATEVER THE INPUT: true; the input reads as it did. -/
def fnExactEvalExSpec : ChangeSpec := { name := "fnExactEvalEx", fn := fun _ => fun
  | [d1, d2] => { results := [.lit (.bool true)], args := [d1, d2] }
  | _ => none }
def fnExactEvalExRow : OpenClaim := { program := "ytmnhoglkahmlaaa", sum := "80db4eaacf90fb5bf33a3ea41f68a5067771d96ca49535ea3e42abd4a85b929d", func := "loop.example/s0035/laws.FnExactEvalEx", spec := "fnExactEvalEx", recurses := true, apart := false }
def FnExactEvalExSaid : Prop := fnExactEvalExRow.holds Try.pinned (OpenSpec.ofChange fnExactEvalExSpec)

/-- ITS FALSE NEIGHBOUR: 'it returns false'. Refute it at one input. -/
def fnExactEvalExWrong : ChangeSpec := { name := "fnExactEvalEx", fn := fun _ => fun
  | [d1, d2] => { results := [.lit (.bool false)], args := [d1, d2] }
  | _ => none }
def FnExactEvalExWrongFalsely : Prop := fnExactEvalExRow.holds Try.pinned (OpenSpec.ofChange fnExactEvalExWrong)

/-- 'laws.FnSorted': WHATEVER THE INPUT: true; the input reads as it did. -/
def fnSortedSpec : ChangeSpec := { name := "fnSorted", fn := fun _ => fun
  | [d] => { results := [.lit (.bool true)], args := [d] }
  | _ => none }
def fnSortedRow : OpenClaim := { program := "ytmnhoglkahmlaaa", sum := "80db4eaacf90fb5bf33a3ea41f68a5067771d96ca49535ea3e42abd4a85b929d", func := "loop.example/s0035/laws.FnSorted", spec := "fnSorted", unfollowed := true, recurses := true, apart := false }
def FnSortedSaid : Prop := fnSortedRow.holds Try.pinned (OpenSpec.ofChange fnSortedSpec)

/-- ITS FALSE NEIGHBOUR: 'it returns false'. Refute it at one input. -/
def fnSortedWrong : ChangeSpec := { name := "fnSorted", fn := fun _ => fun
  | [d] => { results := [.lit (.bool false)], args := [d] }
  | _ => none }
def FnSortedWrongFalsely : Prop := fnSortedRow.holds Try.pinned (OpenSpec.ofChange fnSortedWrong)

/-- 'laws.FnExactSortRows': WHATEVER THE INPUT: true; the input reads as it did. -/
def fnExactSortRowsSpec : ChangeSpec := { name := "fnExactSortRows", fn := fun _ => fun
  | [d] => { results := [.lit (.bool true)], args := [d] }
  | _ => none }
def fnExactSortRowsRow : OpenClaim := { program := "ytmnhoglkahmlaaa", sum := "80db4eaacf90fb5bf33a3ea41f68a5067771d96ca49535ea3e42abd4a85b929d", func := "loop.example/s0035/laws.FnExactSortRows", spec := "fnExactSortRows", unfollowed := true, recurses := true, apart := false }
def FnExactSortRowsSaid : Prop := fnExactSortRowsRow.holds Try.pinned (OpenSpec.ofChange fnExactSortRowsSpec)

/-- ITS FALSE NEIGHBOUR: 'it returns false'. Refute it at one input. -/
def fnExactSortRowsWrong : ChangeSpec := { name := "fnExactSortRows", fn := fun _ => fun
  | [d] => { results := [.lit (.bool false)], args := [d] }
  | _ => none }
def FnExactSortRowsWrongFalsely : Prop := fnExactSortRowsRow.holds Try.pinned (OpenSpec.ofChange fnExactSortRowsWrong)

/-- 'laws.FnLogic': WHATEVER THE INPUT: true; the input reads as it did. -/
def fnLogicSpec : ChangeSpec := { name := "fnLogic", fn := fun _ => fun
  | [d1, d2] => { results := [.lit (.bool true)], args := [d1, d2] }
  | _ => none }
def fnLogicRow : OpenClaim := { program := "ytmnhoglkahmlaaa", sum := "80db4eaacf90fb5bf33a3ea41f68a5067771d96ca49535ea3e42abd4a85b929d", func := "loop.example/s0035/laws.FnLogic", spec := "fnLogic", recurses := true, apart := false }
def FnLogicSaid : Prop := fnLogicRow.holds Try.pinned (OpenSpec.ofChange fnLogicSpec)

/-- ITS FALSE NEIGHBOUR: 'it returns false'. Refute it at one input. -/
def fnLogicWrong : ChangeSpec := { name := "fnLogic", fn := fun _ => fun
  | [d1, d2] => { results := [.lit (.bool false)], args := [d1, d2] }
  | _ => none }
def FnLogicWrongFalsely : Prop := fnLogicRow.holds Try.pinned (OpenSpec.ofChange fnLogicWrong)

/- THE SECOND FORM. 'bulk': how many values and letters a reading holds, each counted each time it is reached (what is shared counts as often as it is met; a slice's spare places count too). A statement '..UptoSaid' is the law's where the arguments, and the package variables that the reading takes, are together of bulk at most 1048576: NARROWER than '..Said'. Prove '..Said' where nothing that the law and all that it calls make is longer than what came in: it says more and counts as full. Else prove '..UptoSaid'. A law counts once. -/
mutual
def uptoBulk {H : Type} : DataW H → Nat
  | .lit (.string bytes) => bytes.length + 1
  | .lit _ => 1
  | .nil => 1
  | .ptr d => uptoBulk d + 1
  | .slice elems spare => uptoBulkAll elems + uptoBulkAll spare + 1
  | .agg parts => uptoBulkAll parts + 1
  | .iface _ d => uptoBulk d + 1
  | .map entries => uptoBulkEntries entries + 1
  | .held _ => 1
def uptoBulkAll {H : Type} : List (DataW H) → Nat
  | [] => 0
  | d :: r => uptoBulk d + uptoBulkAll r
def uptoBulkEntries {H : Type} : List (Lit × DataW H) → Nat
  | [] => 0
  | x :: r => uptoBulkEntry x + uptoBulkEntries r
def uptoBulkEntry {H : Type} : Lit × DataW H → Nat
  | (.string bytes, d) => bytes.length + uptoBulk d + 1
  | (_, d) => uptoBulk d + 1
 end
def uptoSmall : (H : Type) → List (DataW H) → Bool := fun _ ds => decide (uptoBulkAll ds ≤ 1048576)
def OpenSpec.upto (s : _root_.Go.ChangeSpec) : _root_.Go.OpenSpec := { _root_.Go.OpenSpec.ofChange s with cond := some uptoSmall }

/-- 'laws.FnExactConstants', WHERE WHAT IT READS IS OF BULK AT MOST 1048576: true; the input reads as it did. -/
def fnExactConstantsUptoRow : OpenClaim := { program := "ytmnhoglkahmlaaa", sum := "80db4eaacf90fb5bf33a3ea41f68a5067771d96ca49535ea3e42abd4a85b929d", func := "loop.example/s0035/laws.FnExactConstants", spec := "fnExactConstants", apart := false, narrowed := true }
def FnExactConstantsUptoSaid : Prop := fnExactConstantsUptoRow.holds Try.pinned (OpenSpec.upto fnExactConstantsSpec)

/-- 'laws.FnExactNot3', WHERE WHAT IT READS IS OF BULK AT MOST 1048576: true; the input reads as it did. -/
def fnExactNot3UptoRow : OpenClaim := { program := "ytmnhoglkahmlaaa", sum := "80db4eaacf90fb5bf33a3ea41f68a5067771d96ca49535ea3e42abd4a85b929d", func := "loop.example/s0035/laws.FnExactNot3", spec := "fnExactNot3", apart := false, narrowed := true }
def FnExactNot3UptoSaid : Prop := fnExactNot3UptoRow.holds Try.pinned (OpenSpec.upto fnExactNot3Spec)

/-- 'laws.FnExactCmp3', WHERE WHAT IT READS IS OF BULK AT MOST 1048576: true; the input reads as it did. -/
def fnExactCmp3UptoRow : OpenClaim := { program := "ytmnhoglkahmlaaa", sum := "80db4eaacf90fb5bf33a3ea41f68a5067771d96ca49535ea3e42abd4a85b929d", func := "loop.example/s0035/laws.FnExactCmp3", spec := "fnExactCmp3", apart := false, narrowed := true }
def FnExactCmp3UptoSaid : Prop := fnExactCmp3UptoRow.holds Try.pinned (OpenSpec.upto fnExactCmp3Spec)

/-- 'laws.FnExactAnd3', WHERE WHAT IT READS IS OF BULK AT MOST 1048576: true; the input reads as it did. -/
def fnExactAnd3UptoRow : OpenClaim := { program := "ytmnhoglkahmlaaa", sum := "80db4eaacf90fb5bf33a3ea41f68a5067771d96ca49535ea3e42abd4a85b929d", func := "loop.example/s0035/laws.FnExactAnd3", spec := "fnExactAnd3", apart := false, narrowed := true }
def FnExactAnd3UptoSaid : Prop := fnExactAnd3UptoRow.holds Try.pinned (OpenSpec.upto fnExactAnd3Spec)

/-- 'laws.FnExactOr3', WHERE WHAT IT READS IS OF BULK AT MOST 1048576: true; the input reads as it did. -/
def fnExactOr3UptoRow : OpenClaim := { program := "ytmnhoglkahmlaaa", sum := "80db4eaacf90fb5bf33a3ea41f68a5067771d96ca49535ea3e42abd4a85b929d", func := "loop.example/s0035/laws.FnExactOr3", spec := "fnExactOr3", apart := false, narrowed := true }
def FnExactOr3UptoSaid : Prop := fnExactOr3UptoRow.holds Try.pinned (OpenSpec.upto fnExactOr3Spec)

/-- 'laws.FnExactRowCmp', WHERE WHAT IT READS IS OF BULK AT MOST 1048576: true; the input reads as it did. -/
def fnExactRowCmpUptoRow : OpenClaim := { program := "ytmnhoglkahmlaaa", sum := "80db4eaacf90fb5bf33a3ea41f68a5067771d96ca49535ea3e42abd4a85b929d", func := "loop.example/s0035/laws.FnExactRowCmp", spec := "fnExactRowCmp", recurses := true, apart := false, narrowed := true }
def FnExactRowCmpUptoSaid : Prop := fnExactRowCmpUptoRow.holds Try.pinned (OpenSpec.upto fnExactRowCmpSpec)

/-- 'laws.FnExactExOk', WHERE WHAT IT READS IS OF BULK AT MOST 1048576: true; the input reads as it did. -/
def fnExactExOkUptoRow : OpenClaim := { program := "ytmnhoglkahmlaaa", sum := "80db4eaacf90fb5bf33a3ea41f68a5067771d96ca49535ea3e42abd4a85b929d", func := "loop.example/s0035/laws.FnExactExOk", spec := "fnExactExOk", apart := false, narrowed := true }
def FnExactExOkUptoSaid : Prop := fnExactExOkUptoRow.holds Try.pinned (OpenSpec.upto fnExactExOkSpec)

/-- 'laws.FnExactDbOk', WHERE WHAT IT READS IS OF BULK AT MOST 1048576: true; the input reads as it did. -/
def fnExactDbOkUptoRow : OpenClaim := { program := "ytmnhoglkahmlaaa", sum := "80db4eaacf90fb5bf33a3ea41f68a5067771d96ca49535ea3e42abd4a85b929d", func := "loop.example/s0035/laws.FnExactDbOk", spec := "fnExactDbOk", apart := false, narrowed := true }
def FnExactDbOkUptoSaid : Prop := fnExactDbOkUptoRow.holds Try.pinned (OpenSpec.upto fnExactDbOkSpec)

/-- 'laws.FnExactEvalEx', WHERE WHAT IT READS IS OF BULK AT MOST 1048576: true; the input reads as it did. -/
def fnExactEvalExUptoRow : OpenClaim := { program := "ytmnhoglkahmlaaa", sum := "80db4eaacf90fb5bf33a3ea41f68a5067771d96ca49535ea3e42abd4a85b929d", func := "loop.example/s0035/laws.FnExactEvalEx", spec := "fnExactEvalEx", recurses := true, apart := false, narrowed := true }
def FnExactEvalExUptoSaid : Prop := fnExactEvalExUptoRow.holds Try.pinned (OpenSpec.upto fnExactEvalExSpec)

/-- 'laws.FnSorted', WHERE WHAT IT READS IS OF BULK AT MOST 1048576: true; the input reads as it did. -/
def fnSortedUptoRow : OpenClaim := { program := "ytmnhoglkahmlaaa", sum := "80db4eaacf90fb5bf33a3ea41f68a5067771d96ca49535ea3e42abd4a85b929d", func := "loop.example/s0035/laws.FnSorted", spec := "fnSorted", unfollowed := true, recurses := true, apart := false, narrowed := true }
def FnSortedUptoSaid : Prop := fnSortedUptoRow.holds Try.pinned (OpenSpec.upto fnSortedSpec)

/-- 'laws.FnExactSortRows', WHERE WHAT IT READS IS OF BULK AT MOST 1048576: true; the input reads as it did. -/
def fnExactSortRowsUptoRow : OpenClaim := { program := "ytmnhoglkahmlaaa", sum := "80db4eaacf90fb5bf33a3ea41f68a5067771d96ca49535ea3e42abd4a85b929d", func := "loop.example/s0035/laws.FnExactSortRows", spec := "fnExactSortRows", unfollowed := true, recurses := true, apart := false, narrowed := true }
def FnExactSortRowsUptoSaid : Prop := fnExactSortRowsUptoRow.holds Try.pinned (OpenSpec.upto fnExactSortRowsSpec)

/-- 'laws.FnLogic', WHERE WHAT IT READS IS OF BULK AT MOST 1048576: true; the input reads as it did. -/
def fnLogicUptoRow : OpenClaim := { program := "ytmnhoglkahmlaaa", sum := "80db4eaacf90fb5bf33a3ea41f68a5067771d96ca49535ea3e42abd4a85b929d", func := "loop.example/s0035/laws.FnLogic", spec := "fnLogic", recurses := true, apart := false, narrowed := true }
def FnLogicUptoSaid : Prop := fnLogicUptoRow.holds Try.pinned (OpenSpec.upto fnLogicSpec)

end Rows
end Go.Proofs.Ytmnhoglkahmlaaa
