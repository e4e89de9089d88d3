/-
  No cell of these rows narrows 'for every input' (looked for: loops, veiled, ifaces, maps, wideKeys, modest, calm, conditions, laid).
  DERIVED. THE GIVEN ROWS OF THIS SEAT. 3 by the template 'for every input the law returns true; each argument reads behind the call as it read before'; 0 by the template 'total and deterministic' (their statements: YtfplalbognalkaaGreatTotals.lean).
  GIVEN WITH THE SEED: the statements are not yours to turn. If you find one false, say at which input.
  Laid BY PROGRAM, IN A SANDBOX (cutbox-rows.mjs): the forced cells as the released guide's own fill.sh prints them over the translation 18d5c72009f81cd9… (all of the seat's roots in one cut). By AI agents, Wed Nov 11 2026. No macro, syntax, notation, axiom, sorry.
-/
import Derived.Test.YtfplalbognalkaaGreatChecked
import GoSem.Claim
import GoSem.ClaimJoined
import GoSem.ClaimMapViews
import Derived.JoinedTies
import Derived.KernelRfl
namespace Go.Proofs.YtfplalbognalkaaGreat
/- THE CELL 'sum', in the pinned program and in every row, IS THE sha256 OF THE DUMP (.gsa) THAT YtfplalbognalkaaGreatProg.lean LOADS. Nothing in Lean hashes anything: it is a label: what it is worth is what the hold of that sum in a sandbox is worth. -/
noncomputable def Tryz.pinned : Pinned := { name := "ytfplalbognalkaagreat", sum := "18d5c72009f81cd96a7f742f6e047820b2e55cac981bd601d5fade7eac1344ff", checked := Tryz.checked }
namespace Rows
def none {H : Type} : Left H := { results := [], args := [] }

/-- 'laws.FnExactUnnest': WHATEVER THE INPUT: true; the input reads as it did. -/
def fnExactUnnestSpec : ChangeSpec := { name := "fnExactUnnest", fn := fun _ => fun
  | [d1, d2] => { results := [.lit (.bool true)], args := [d1, d2] }
  | _ => none }
def fnExactUnnestRow : OpenClaim := { program := "ytfplalbognalkaagreat", sum := "18d5c72009f81cd96a7f742f6e047820b2e55cac981bd601d5fade7eac1344ff", func := "loop.example/s0035/laws.FnExactUnnest", spec := "fnExactUnnest", unfollowed := true, recurses := true, apart := false }
def FnExactUnnestSaid : Prop := fnExactUnnestRow.holds Tryz.pinned (OpenSpec.ofChange fnExactUnnestSpec)

/-- ITS FALSE NEIGHBOUR: 'it returns false'. Refute it at one input. -/
def fnExactUnnestWrong : ChangeSpec := { name := "fnExactUnnest", fn := fun _ => fun
  | [d1, d2] => { results := [.lit (.bool false)], args := [d1, d2] }
  | _ => none }
def FnExactUnnestWrongFalsely : Prop := fnExactUnnestRow.holds Tryz.pinned (OpenSpec.ofChange fnExactUnnestWrong)

/-- 'laws.FnExactEvalPlan': WHATEVER THE INPUT: true; the input reads as it did. -/
def fnExactEvalPlanSpec : ChangeSpec := { name := "fnExactEvalPlan", fn := fun _ => fun
  | [d1, d2] => { results := [.lit (.bool true)], args := [d1, d2] }
  | _ => none }
def fnExactEvalPlanRow : OpenClaim := { program := "ytfplalbognalkaagreat", sum := "18d5c72009f81cd96a7f742f6e047820b2e55cac981bd601d5fade7eac1344ff", func := "loop.example/s0035/laws.FnExactEvalPlan", spec := "fnExactEvalPlan", unfollowed := true, recurses := true, apart := false }
def FnExactEvalPlanSaid : Prop := fnExactEvalPlanRow.holds Tryz.pinned (OpenSpec.ofChange fnExactEvalPlanSpec)

/-- ITS FALSE NEIGHBOUR: 'it returns false'. Refute it at one input. -/
def fnExactEvalPlanWrong : ChangeSpec := { name := "fnExactEvalPlan", fn := fun _ => fun
  | [d1, d2] => { results := [.lit (.bool false)], args := [d1, d2] }
  | _ => none }
def FnExactEvalPlanWrongFalsely : Prop := fnExactEvalPlanRow.holds Tryz.pinned (OpenSpec.ofChange fnExactEvalPlanWrong)

/-- 'laws.FnExactTranslate': WHATEVER THE INPUT: true; the input reads as it did. -/
def fnExactTranslateSpec : ChangeSpec := { name := "fnExactTranslate", fn := fun _ => fun
  | [d1, d2] => { results := [.lit (.bool true)], args := [d1, d2] }
  | _ => none }
def fnExactTranslateRow : OpenClaim := { program := "ytfplalbognalkaagreat", sum := "18d5c72009f81cd96a7f742f6e047820b2e55cac981bd601d5fade7eac1344ff", func := "loop.example/s0035/laws.FnExactTranslate", spec := "fnExactTranslate", unfollowed := true, recurses := true, apart := false }
def FnExactTranslateSaid : Prop := fnExactTranslateRow.holds Tryz.pinned (OpenSpec.ofChange fnExactTranslateSpec)

/-- ITS FALSE NEIGHBOUR: 'it returns false'. Refute it at one input. -/
def fnExactTranslateWrong : ChangeSpec := { name := "fnExactTranslate", fn := fun _ => fun
  | [d1, d2] => { results := [.lit (.bool false)], args := [d1, d2] }
  | _ => none }
def FnExactTranslateWrongFalsely : Prop := fnExactTranslateRow.holds Tryz.pinned (OpenSpec.ofChange fnExactTranslateWrong)

/- THE SECOND FORM. 'bulk': how many values and letters a reading holds, each counted each time it is reached (what is shared counts as often as it is met; a slice's spare places count too). A statement '..UptoSaid' is the law's where the arguments, and the package variables that the reading takes, are together of bulk at most 1048576: NARROWER than '..Said'. Prove '..Said' where nothing that the law and all that it calls make is longer than what came in: it says more and counts as full. Else prove '..UptoSaid'. A law counts once. -/
mutual
def uptoBulk {H : Type} : DataW H → Nat
  | .lit (.string bytes) => bytes.length + 1
  | .lit _ => 1
  | .nil => 1
  | .ptr d => uptoBulk d + 1
  | .slice elems spare => uptoBulkAll elems + uptoBulkAll spare + 1
  | .agg parts => uptoBulkAll parts + 1
  | .iface _ d => uptoBulk d + 1
  | .map entries => uptoBulkEntries entries + 1
  | .held _ => 1
def uptoBulkAll {H : Type} : List (DataW H) → Nat
  | [] => 0
  | d :: r => uptoBulk d + uptoBulkAll r
def uptoBulkEntries {H : Type} : List (Lit × DataW H) → Nat
  | [] => 0
  | x :: r => uptoBulkEntry x + uptoBulkEntries r
def uptoBulkEntry {H : Type} : Lit × DataW H → Nat
  | (.string bytes, d) => bytes.length + uptoBulk d + 1
  | (_, d) => uptoBulk d + 1
 end
def uptoSmall : (H : Type) → List (DataW H) → Bool := fun _ ds => decide (uptoBulkAll ds ≤ 1048576)
def OpenSpec.upto (s : _root_.Go.ChangeSpec) : _root_.Go.OpenSpec := { _root_.Go.OpenSpec.ofChange s with cond := some uptoSmall }

/-- 'laws.FnExactUnnest', WHERE WHAT IT READS IS OF BULK AT MOST 1048576: true; the input reads as it did. -/
def fnExactUnnestUptoRow : OpenClaim := { program := "ytfplalbognalkaagreat", sum := "18d5c72009f81cd96a7f742f6e047820b2e55cac981bd601d5fade7eac1344ff", func := "loop.example/s0035/laws.FnExactUnnest", spec := "fnExactUnnest", unfollowed := true, recurses := true, apart := false, narrowed := true }
def FnExactUnnestUptoSaid : Prop := fnExactUnnestUptoRow.holds Tryz.pinned (OpenSpec.upto fnExactUnnestSpec)

/-- 'laws.FnExactEvalPlan', WHERE WHAT IT READS IS OF BULK AT MOST 1048576: true; the input reads as it did. -/
def fnExactEvalPlanUptoRow : OpenClaim := { program := "ytfplalbognalkaagreat", sum := "18d5c72009f81cd96a7f742f6e047820b2e55cac981bd601d5fade7eac1344ff", func := "loop.example/s0035/laws.FnExactEvalPlan", spec := "fnExactEvalPlan", unfollowed := true, recurses := true, apart := false, narrowed := true }
def FnExactEvalPlanUptoSaid : Prop := fnExactEvalPlanUptoRow.holds Tryz.pinned (OpenSpec.upto fnExactEvalPlanSpec)

/-- 'laws.FnExactTranslate', WHERE WHAT IT READS IS OF BULK AT MOST 1048576: true; the input reads as it did. -/
def fnExactTranslateUptoRow : OpenClaim := { program := "ytfplalbognalkaagreat", sum := "18d5c72009f81cd96a7f742f6e047820b2e55cac981bd601d5fade7eac1344ff", func := "loop.example/s0035/laws.FnExactTranslate", spec := "fnExactTranslate", unfollowed := true, recurses := true, apart := false, narrowed := true }
def FnExactTranslateUptoSaid : Prop := fnExactTranslateUptoRow.holds Tryz.pinned (OpenSpec.upto fnExactTranslateSpec)

end Rows
end Go.Proofs.YtfplalbognalkaaGreat
