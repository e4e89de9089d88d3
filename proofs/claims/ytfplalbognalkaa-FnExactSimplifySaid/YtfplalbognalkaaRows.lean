/-
  No cell of these rows narrows 'for every input' (looked for: loops, veiled, ifaces, maps, wideKeys, modest, calm, conditions, laid).
  DERIVED. THE GIVEN ROWS OF THIS SEAT. 7 by the template 'for every input the law returns true; each argument reads behind the call as it read before'; 0 by the template 'total and deterministic' (their statements: YtfplalbognalkaaTotals.lean).
  GIVEN WITH THE SEED: the statements are not yours to turn. If you find one false, say at which input.
  Laid BY PROGRAM, IN A SANDBOX (cutbox-rows.mjs): the forced cells as the released guide's own fill.sh prints them over the translation 665d091d9bbb8323… (all of the seat's roots in one cut). By AI agents, Wed Nov 11 2026. No macro, syntax, notation, axiom, sorry.
-/
import Derived.Test.YtfplalbognalkaaChecked
import GoSem.Claim
import GoSem.ClaimJoined
import GoSem.ClaimMapViews
import Derived.JoinedTies
import Derived.KernelRfl
namespace Go.Proofs.Ytfplalbognalkaa
/- THE CELL 'sum', in the pinned program and in every row, IS THE sha256 OF THE DUMP (.gsa) THAT YtfplalbognalkaaProg.lean LOADS. Nothing in Lean hashes anything: it is a label: what it is worth is what the hold of that sum in a sandbox is worth. -/
noncomputable def Try.pinned : Pinned := { name := "ytfplalbognalkaa", sum := "665d091d9bbb8323581311d847ce53cc87474ca06c8ced30438a5b2fc44d449a", checked := Try.checked }
namespace Rows
def none {H : Type} : Left H := { results := [], args := [] }

/-- 'laws.FnSorted': WHATEVER THE INPUT: true; the input reads as it did. -/
def fnSortedSpec : ChangeSpec := { name := "fnSorted", fn := fun _ => fun
  | [d] => { results := [.lit (.bool true)], args := [d] }
  | _ => none }
def fnSortedRow : OpenClaim := { program := "ytfplalbognalkaa", sum := "665d091d9bbb8323581311d847ce53cc87474ca06c8ced30438a5b2fc44d449a", func := "loop.example/s0035/laws.FnSorted", spec := "fnSorted", unfollowed := true, recurses := true, apart := false }
def FnSortedSaid : Prop := fnSortedRow.holds Try.pinned (OpenSpec.ofChange fnSortedSpec)

/-- ITS FALSE NEIGHBOUR: 'it returns false'. Refute it at one input. -/
def fnSortedWrong : ChangeSpec := { name := "fnSorted", fn := fun _ => fun
  | [d] => { results := [.lit (.bool false)], args := [d] }
  | _ => none }
def FnSortedWrongFalsely : Prop := fnSortedRow.holds Try.pinned (OpenSpec.ofChange fnSortedWrong)

/-- 'laws.FnExactSortRows': WHATEVER THE INPUT: true; the input reads as it did. -/
def fnExactSortRowsSpec : ChangeSpec := { name := "fnExactSortRows", fn := fun _ => fun
  | [d] => { results := [.lit (.bool true)], args := [d] }
  | _ => none }
def fnExactSortRowsRow : OpenClaim := { program := "ytfplalbognalkaa", sum := "665d091d9bbb8323581311d847ce53cc87474ca06c8ced30438a5b2fc44d449a", func := "loop.example/s0035/laws.FnExactSortRows", spec := "fnExactSortRows", unfollowed := true, recurses := true, apart := false }
def FnExactSortRowsSaid : Prop := fnExactSortRowsRow.holds Try.pinned (OpenSpec.ofChange fnExactSortRowsSpec)

/-- ITS FALSE NEIGHBOUR: 'it returns false'. Refute it at one input. -/
def fnExactSortRowsWrong : ChangeSpec := { name := "fnExactSortRows", fn := fun _ => fun
  | [d] => { results := [.lit (.bool false)], args := [d] }
  | _ => none }
def FnExactSortRowsWrongFalsely : Prop := fnExactSortRowsRow.holds Try.pinned (OpenSpec.ofChange fnExactSortRowsWrong)

/-- 'laws.FnExactAstOk': WHATEVER THE INPUT: true; the input reads as it did. -/
def fnExactAstOkSpec : ChangeSpec := { name := "fnExactAstOk", fn := fun _ => fun
  | [d] => { results := [.lit (.bool true)], args := [d] }
  | _ => none }
def fnExactAstOkRow : OpenClaim := { program := "ytfplalbognalkaa", sum := "665d091d9bbb8323581311d847ce53cc87474ca06c8ced30438a5b2fc44d449a", func := "loop.example/s0035/laws.FnExactAstOk", spec := "fnExactAstOk", unfollowed := true, recurses := true, apart := false }
def FnExactAstOkSaid : Prop := fnExactAstOkRow.holds Try.pinned (OpenSpec.ofChange fnExactAstOkSpec)

/-- ITS FALSE NEIGHBOUR: 'it returns false'. Refute it at one input. -/
def fnExactAstOkWrong : ChangeSpec := { name := "fnExactAstOk", fn := fun _ => fun
  | [d] => { results := [.lit (.bool false)], args := [d] }
  | _ => none }
def FnExactAstOkWrongFalsely : Prop := fnExactAstOkRow.holds Try.pinned (OpenSpec.ofChange fnExactAstOkWrong)

/-- 'laws.FnExactFlatOk': WHATEVER THE INPUT: true; the input reads as it did. -/
def fnExactFlatOkSpec : ChangeSpec := { name := "fnExactFlatOk", fn := fun _ => fun
  | [d1, d2] => { results := [.lit (.bool true)], args := [d1, d2] }
  | _ => none }
def fnExactFlatOkRow : OpenClaim := { program := "ytfplalbognalkaa", sum := "665d091d9bbb8323581311d847ce53cc87474ca06c8ced30438a5b2fc44d449a", func := "loop.example/s0035/laws.FnExactFlatOk", spec := "fnExactFlatOk", unfollowed := true, recurses := true, apart := false }
def FnExactFlatOkSaid : Prop := fnExactFlatOkRow.holds Try.pinned (OpenSpec.ofChange fnExactFlatOkSpec)

/-- ITS FALSE NEIGHBOUR: 'it returns false'. Refute it at one input. -/
def fnExactFlatOkWrong : ChangeSpec := { name := "fnExactFlatOk", fn := fun _ => fun
  | [d1, d2] => { results := [.lit (.bool false)], args := [d1, d2] }
  | _ => none }
def FnExactFlatOkWrongFalsely : Prop := fnExactFlatOkRow.holds Try.pinned (OpenSpec.ofChange fnExactFlatOkWrong)

/-- 'laws.FnExactPlanOk': WHATEVER THE INPUT: true; the input reads as it did. -/
def fnExactPlanOkSpec : ChangeSpec := { name := "fnExactPlanOk", fn := fun _ => fun
  | [d1, d2] => { results := [.lit (.bool true)], args := [d1, d2] }
  | _ => none }
def fnExactPlanOkRow : OpenClaim := { program := "ytfplalbognalkaa", sum := "665d091d9bbb8323581311d847ce53cc87474ca06c8ced30438a5b2fc44d449a", func := "loop.example/s0035/laws.FnExactPlanOk", spec := "fnExactPlanOk", unfollowed := true, recurses := true, apart := false }
def FnExactPlanOkSaid : Prop := fnExactPlanOkRow.holds Try.pinned (OpenSpec.ofChange fnExactPlanOkSpec)

/-- ITS FALSE NEIGHBOUR: 'it returns false'. Refute it at one input. -/
def fnExactPlanOkWrong : ChangeSpec := { name := "fnExactPlanOk", fn := fun _ => fun
  | [d1, d2] => { results := [.lit (.bool false)], args := [d1, d2] }
  | _ => none }
def FnExactPlanOkWrongFalsely : Prop := fnExactPlanOkRow.holds Try.pinned (OpenSpec.ofChange fnExactPlanOkWrong)

/-- 'laws.FnExactPlanWork': WHATEVER THE INPUT: true; the input reads as it did. -/
def fnExactPlanWorkSpec : ChangeSpec := { name := "fnExactPlanWork", fn := fun _ => fun
  | [d1, d2] => { results := [.lit (.bool true)], args := [d1, d2] }
  | _ => none }
def fnExactPlanWorkRow : OpenClaim := { program := "ytfplalbognalkaa", sum := "665d091d9bbb8323581311d847ce53cc87474ca06c8ced30438a5b2fc44d449a", func := "loop.example/s0035/laws.FnExactPlanWork", spec := "fnExactPlanWork", unfollowed := true, recurses := true, apart := false }
def FnExactPlanWorkSaid : Prop := fnExactPlanWorkRow.holds Try.pinned (OpenSpec.ofChange fnExactPlanWorkSpec)

/-- ITS FALSE NEIGHBOUR: 'it returns false'. Refute it at one input. -/
def fnExactPlanWorkWrong : ChangeSpec := { name := "fnExactPlanWork", fn := fun _ => fun
  | [d1, d2] => { results := [.lit (.bool false)], args := [d1, d2] }
  | _ => none }
def FnExactPlanWorkWrongFalsely : Prop := fnExactPlanWorkRow.holds Try.pinned (OpenSpec.ofChange fnExactPlanWorkWrong)

/-- 'laws.FnExactSimplify': WHATEVER THE INPUT: true; the input reads as it did. -/
def fnExactSimplifySpec : ChangeSpec := { name := "fnExactSimplify", fn := fun _ => fun
  | [d1, d2] => { results := [.lit (.bool true)], args := [d1, d2] }
  | _ => none }
def fnExactSimplifyRow : OpenClaim := { program := "ytfplalbognalkaa", sum := "665d091d9bbb8323581311d847ce53cc87474ca06c8ced30438a5b2fc44d449a", func := "loop.example/s0035/laws.FnExactSimplify", spec := "fnExactSimplify", unfollowed := true, recurses := true, apart := false }
def FnExactSimplifySaid : Prop := fnExactSimplifyRow.holds Try.pinned (OpenSpec.ofChange fnExactSimplifySpec)

/-- ITS FALSE NEIGHBOUR: 'it returns false'. Refute it at one input. -/
def fnExactSimplifyWrong : ChangeSpec := { name := "fnExactSimplify", fn := fun _ => fun
  | [d1, d2] => { results := [.lit (.bool false)], args := [d1, d2] }
  | _ => none }
def FnExactSimplifyWrongFalsely : Prop := fnExactSimplifyRow.holds Try.pinned (OpenSpec.ofChange fnExactSimplifyWrong)

/- THE SECOND FORM. 'bulk': how many values and letters a reading holds, each counted each time it is reached (what is shared counts as often as it is met; a slice's spare places count too). A statement '..UptoSaid' is the law's where the arguments, and the package variables that the reading takes, are together of bulk at most 1048576: NARROWER than '..Said'. Prove '..Said' where nothing that the law and all that it calls make is longer than what came in: it says more and counts as full. Else prove '..UptoSaid'. A law counts once. -/
mutual
def uptoBulk {H : Type} : DataW H → Nat
  | .lit (.string bytes) => bytes.length + 1
  | .lit _ => 1
  | .nil => 1
  | .ptr d => uptoBulk d + 1
  | .slice elems spare => uptoBulkAll elems + uptoBulkAll spare + 1
  | .agg parts => uptoBulkAll parts + 1
  | .iface _ d => uptoBulk d + 1
  | .map entries => uptoBulkEntries entries + 1
  | .held _ => 1
def uptoBulkAll {H : Type} : List (DataW H) → Nat
  | [] => 0
  | d :: r => uptoBulk d + uptoBulkAll r
def uptoBulkEntries {H : Type} : List (Lit × DataW H) → Nat
  | [] => 0
  | x :: r => uptoBulkEntry x + uptoBulkEntries r
def uptoBulkEntry {H : Type} : Lit × DataW H → Nat
  | (.string bytes, d) => bytes.length + uptoBulk d + 1
  | (_, d) => uptoBulk d + 1
 end
def uptoSmall : (H : Type) → List (DataW H) → Bool := fun _ ds => decide (uptoBulkAll ds ≤ 1048576)
def OpenSpec.upto (s : _root_.Go.ChangeSpec) : _root_.Go.OpenSpec := { _root_.Go.OpenSpec.ofChange s with cond := some uptoSmall }

/-- 'laws.FnSorted', WHERE WHAT IT READS IS OF BULK AT MOST 1048576: true; the input reads as it did. -/
def fnSortedUptoRow : OpenClaim := { program := "ytfplalbognalkaa", sum := "665d091d9bbb8323581311d847ce53cc87474ca06c8ced30438a5b2fc44d449a", func := "loop.example/s0035/laws.FnSorted", spec := "fnSorted", unfollowed := true, recurses := true, apart := false, narrowed := true }
def FnSortedUptoSaid : Prop := fnSortedUptoRow.holds Try.pinned (OpenSpec.upto fnSortedSpec)

/-- 'laws.FnExactSortRows', WHERE WHAT IT READS IS OF BULK AT MOST 1048576: true; the input reads as it did. -/
def fnExactSortRowsUptoRow : OpenClaim := { program := "ytfplalbognalkaa", sum := "665d091d9bbb8323581311d847ce53cc87474ca06c8ced30438a5b2fc44d449a", func := "loop.example/s0035/laws.FnExactSortRows", spec := "fnExactSortRows", unfollowed := true, recurses := true, apart := false, narrowed := true }
def FnExactSortRowsUptoSaid : Prop := fnExactSortRowsUptoRow.holds Try.pinned (OpenSpec.upto fnExactSortRowsSpec)

/-- 'laws.FnExactAstOk', WHERE WHAT IT READS IS OF BULK AT MOST 1048576: true; the input reads as it did. -/
def fnExactAstOkUptoRow : OpenClaim := { program := "ytfplalbognalkaa", sum := "665d091d9bbb8323581311d847ce53cc87474ca06c8ced30438a5b2fc44d449a", func := "loop.example/s0035/laws.FnExactAstOk", spec := "fnExactAstOk", unfollowed := true, recurses := true, apart := false, narrowed := true }
def FnExactAstOkUptoSaid : Prop := fnExactAstOkUptoRow.holds Try.pinned (OpenSpec.upto fnExactAstOkSpec)

/-- 'laws.FnExactFlatOk', WHERE WHAT IT READS IS OF BULK AT MOST 1048576: true; the input reads as it did. -/
def fnExactFlatOkUptoRow : OpenClaim := { program := "ytfplalbognalkaa", sum := "665d091d9bbb8323581311d847ce53cc87474ca06c8ced30438a5b2fc44d449a", func := "loop.example/s0035/laws.FnExactFlatOk", spec := "fnExactFlatOk", unfollowed := true, recurses := true, apart := false, narrowed := true }
def FnExactFlatOkUptoSaid : Prop := fnExactFlatOkUptoRow.holds Try.pinned (OpenSpec.upto fnExactFlatOkSpec)

/-- 'laws.FnExactPlanOk', WHERE WHAT IT READS IS OF BULK AT MOST 1048576: true; the input reads as it did. -/
def fnExactPlanOkUptoRow : OpenClaim := { program := "ytfplalbognalkaa", sum := "665d091d9bbb8323581311d847ce53cc87474ca06c8ced30438a5b2fc44d449a", func := "loop.example/s0035/laws.FnExactPlanOk", spec := "fnExactPlanOk", unfollowed := true, recurses := true, apart := false, narrowed := true }
def FnExactPlanOkUptoSaid : Prop := fnExactPlanOkUptoRow.holds Try.pinned (OpenSpec.upto fnExactPlanOkSpec)

/-- 'laws.FnExactPlanWork', WHERE WHAT IT READS IS OF BULK AT MOST 1048576: true; the input reads as it did. -/
def fnExactPlanWorkUptoRow : OpenClaim := { program := "ytfplalbognalkaa", sum := "665d091d9bbb8323581311d847ce53cc87474ca06c8ced30438a5b2fc44d449a", func := "loop.example/s0035/laws.FnExactPlanWork", spec := "fnExactPlanWork", unfollowed := true, recurses := true, apart := false, narrowed := true }
def FnExactPlanWorkUptoSaid : Prop := fnExactPlanWorkUptoRow.holds Try.pinned (OpenSpec.upto fnExactPlanWorkSpec)

/-- 'laws.FnExactSimplify', WHERE WHAT IT READS IS OF BULK AT MOST 1048576: true; the input reads as it did. -/
def fnExactSimplifyUptoRow : OpenClaim := { program := "ytfplalbognalkaa", sum := "665d091d9bbb8323581311d847ce53cc87474ca06c8ced30438a5b2fc44d449a", func := "loop.example/s0035/laws.FnExactSimplify", spec := "fnExactSimplify", unfollowed := true, recurses := true, apart := false, narrowed := true }
def FnExactSimplifyUptoSaid : Prop := fnExactSimplifyUptoRow.holds Try.pinned (OpenSpec.upto fnExactSimplifySpec)

end Rows
end Go.Proofs.Ytfplalbognalkaa
