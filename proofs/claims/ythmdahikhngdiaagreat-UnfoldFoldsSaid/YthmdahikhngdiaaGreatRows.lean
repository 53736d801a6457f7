/-
  NARROWER THAN 'FOR EVERY INPUT', by the rows' own cells (each row's printed sentence says how): UnfoldTuples: loops · UnfoldFolds: loops · UnfoldRows: loops · UnfoldDegrees: loops · UnfoldBack: loops.
  DERIVED. THE GIVEN ROWS OF THIS SEAT. 5 by the template 'for every input the law returns true; each argument reads behind the call as it read before'; 0 by the template 'total and deterministic' (their statements: YthmdahikhngdiaaGreatTotals.lean).
  GIVEN WITH THE SEED: the statements are not yours to turn. If you find one false, say at which input.
  Laid BY PROGRAM, IN A SANDBOX (cutbox-rows.mjs): the forced cells as the released guide's own fill.sh prints them over the translation efa1a9ab1e71b02e… (all of the seat's roots in one cut). By AI agents, Wed Nov 11 2026. No macro, syntax, notation, axiom, sorry.
-/
import Derived.Test.YthmdahikhngdiaaGreatChecked
import GoSem.Claim
import GoSem.ClaimJoined
import GoSem.ClaimMapViews
import Derived.JoinedTies
import Derived.KernelRfl
namespace Go.Proofs.YthmdahikhngdiaaGreat
/- THE CELL 'sum', in the pinned program and in every row, IS THE sha256 OF THE DUMP (.gsa) THAT YthmdahikhngdiaaGreatProg.lean LOADS. Nothing in Lean hashes anything: it is a label: what it is worth is what the hold of that sum in a sandbox is worth. -/
noncomputable def Tryz.pinned : Pinned := { name := "ythmdahikhngdiaagreat", sum := "efa1a9ab1e71b02e7a052cb6ef20c1dc1657c258b62b3c2e391459ba338d832b", checked := Tryz.checked }
namespace Rows
def none {H : Type} : Left H := { results := [], args := [] }

/-- 'amortcostlaw18.UnfoldTuples': WHATEVER THE INPUT: true; the input reads as it did. -/
def unfoldTuplesSpec : ChangeSpec := { name := "unfoldTuples", fn := fun _ => fun
  | [d1, d2, d3] => { results := [.lit (.bool true)], args := [d1, d2, d3] }
  | _ => none }
def unfoldTuplesRow : OpenClaim := { program := "ythmdahikhngdiaagreat", sum := "efa1a9ab1e71b02e7a052cb6ef20c1dc1657c258b62b3c2e391459ba338d832b", func := "amortcost/amortcostlaw18.UnfoldTuples", spec := "unfoldTuples", unfollowed := true, recurses := true, loops := true, apart := false }
def UnfoldTuplesSaid : Prop := unfoldTuplesRow.holds Tryz.pinned (OpenSpec.ofChange unfoldTuplesSpec)

/-- ITS FALSE NEIGHBOUR: 'it returns false'. Refute it at one input. -/
def unfoldTuplesWrong : ChangeSpec := { name := "unfoldTuples", fn := fun _ => fun
  | [d1, d2, d3] => { results := [.lit (.bool false)], args := [d1, d2, d3] }
  | _ => none }
def UnfoldTuplesWrongFalsely : Prop := unfoldTuplesRow.holds Tryz.pinned (OpenSpec.ofChange unfoldTuplesWrong)

/-- 'amortcostlaw18.UnfoldFolds': WHATEVER THE INPUT: true; the input reads as it did. -/
def unfoldFoldsSpec : ChangeSpec := { name := "unfoldFolds", fn := fun _ => fun
  | [d1, d2, d3, d4] => { results := [.lit (.bool true)], args := [d1, d2, d3, d4] }
  | _ => none }
def unfoldFoldsRow : OpenClaim := { program := "ythmdahikhngdiaagreat", sum := "efa1a9ab1e71b02e7a052cb6ef20c1dc1657c258b62b3c2e391459ba338d832b", func := "amortcost/amortcostlaw18.UnfoldFolds", spec := "unfoldFolds", unfollowed := true, recurses := true, loops := true, apart := false }
def UnfoldFoldsSaid : Prop := unfoldFoldsRow.holds Tryz.pinned (OpenSpec.ofChange unfoldFoldsSpec)

/-- ITS FALSE NEIGHBOUR: 'it returns false'. Refute it at one input. -/
def unfoldFoldsWrong : ChangeSpec := { name := "unfoldFolds", fn := fun _ => fun
  | [d1, d2, d3, d4] => { results := [.lit (.bool false)], args := [d1, d2, d3, d4] }
  | _ => none }
def UnfoldFoldsWrongFalsely : Prop := unfoldFoldsRow.holds Tryz.pinned (OpenSpec.ofChange unfoldFoldsWrong)

/-- 'amortcostlaw18.UnfoldRows': WHATEVER THE INPUT: true; the input reads as it did. -/
def unfoldRowsSpec : ChangeSpec := { name := "unfoldRows", fn := fun _ => fun
  | [d1, d2, d3, d4] => { results := [.lit (.bool true)], args := [d1, d2, d3, d4] }
  | _ => none }
def unfoldRowsRow : OpenClaim := { program := "ythmdahikhngdiaagreat", sum := "efa1a9ab1e71b02e7a052cb6ef20c1dc1657c258b62b3c2e391459ba338d832b", func := "amortcost/amortcostlaw18.UnfoldRows", spec := "unfoldRows", unfollowed := true, recurses := true, loops := true, apart := false }
def UnfoldRowsSaid : Prop := unfoldRowsRow.holds Tryz.pinned (OpenSpec.ofChange unfoldRowsSpec)

/-- ITS FALSE NEIGHBOUR: 'it returns false'. Refute it at one input. -/
def unfoldRowsWrong : ChangeSpec := { name := "unfoldRows", fn := fun _ => fun
  | [d1, d2, d3, d4] => { results := [.lit (.bool false)], args := [d1, d2, d3, d4] }
  | _ => none }
def UnfoldRowsWrongFalsely : Prop := unfoldRowsRow.holds Tryz.pinned (OpenSpec.ofChange unfoldRowsWrong)

/-- 'amortcostlaw18.UnfoldDegrees': WHATEVER THE INPUT: true; the input reads as it did. -/
def unfoldDegreesSpec : ChangeSpec := { name := "unfoldDegrees", fn := fun _ => fun
  | [d1, d2, d3, d4] => { results := [.lit (.bool true)], args := [d1, d2, d3, d4] }
  | _ => none }
def unfoldDegreesRow : OpenClaim := { program := "ythmdahikhngdiaagreat", sum := "efa1a9ab1e71b02e7a052cb6ef20c1dc1657c258b62b3c2e391459ba338d832b", func := "amortcost/amortcostlaw18.UnfoldDegrees", spec := "unfoldDegrees", unfollowed := true, recurses := true, loops := true, apart := false }
def UnfoldDegreesSaid : Prop := unfoldDegreesRow.holds Tryz.pinned (OpenSpec.ofChange unfoldDegreesSpec)

/-- ITS FALSE NEIGHBOUR: 'it returns false'. Refute it at one input. -/
def unfoldDegreesWrong : ChangeSpec := { name := "unfoldDegrees", fn := fun _ => fun
  | [d1, d2, d3, d4] => { results := [.lit (.bool false)], args := [d1, d2, d3, d4] }
  | _ => none }
def UnfoldDegreesWrongFalsely : Prop := unfoldDegreesRow.holds Tryz.pinned (OpenSpec.ofChange unfoldDegreesWrong)

/-- 'amortcostlaw18.UnfoldBack': WHATEVER THE INPUT: true; the input reads as it did. -/
def unfoldBackSpec : ChangeSpec := { name := "unfoldBack", fn := fun _ => fun
  | [d1, d2, d3, d4] => { results := [.lit (.bool true)], args := [d1, d2, d3, d4] }
  | _ => none }
def unfoldBackRow : OpenClaim := { program := "ythmdahikhngdiaagreat", sum := "efa1a9ab1e71b02e7a052cb6ef20c1dc1657c258b62b3c2e391459ba338d832b", func := "amortcost/amortcostlaw18.UnfoldBack", spec := "unfoldBack", unfollowed := true, recurses := true, loops := true, apart := false }
def UnfoldBackSaid : Prop := unfoldBackRow.holds Tryz.pinned (OpenSpec.ofChange unfoldBackSpec)

/-- ITS FALSE NEIGHBOUR: 'it returns false'. Refute it at one input. -/
def unfoldBackWrong : ChangeSpec := { name := "unfoldBack", fn := fun _ => fun
  | [d1, d2, d3, d4] => { results := [.lit (.bool false)], args := [d1, d2, d3, d4] }
  | _ => none }
def UnfoldBackWrongFalsely : Prop := unfoldBackRow.holds Tryz.pinned (OpenSpec.ofChange unfoldBackWrong)

/- THE SECOND FORM. 'bulk': how many values and letters a reading holds, each counted each time it is reached (what is shared counts as often as it is met; a slice's spare places count too). A statement '..UptoSaid' is the law's where the arguments, and the package variables that the reading takes, are together of bulk at most 1048576: NARROWER than '..Said'. Prove '..Said' where nothing that the law and all that it calls make is longer than what came in: it says more and counts as full. Else prove '..UptoSaid'. A law counts once. -/
mutual
def uptoBulk {H : Type} : DataW H → Nat
  | .lit (.string bytes) => bytes.length + 1
  | .lit _ => 1
  | .nil => 1
  | .ptr d => uptoBulk d + 1
  | .slice elems spare => uptoBulkAll elems + uptoBulkAll spare + 1
  | .agg parts => uptoBulkAll parts + 1
  | .iface _ d => uptoBulk d + 1
  | .map entries => uptoBulkEntries entries + 1
  | .held _ => 1
def uptoBulkAll {H : Type} : List (DataW H) → Nat
  | [] => 0
  | d :: r => uptoBulk d + uptoBulkAll r
def uptoBulkEntries {H : Type} : List (Lit × DataW H) → Nat
  | [] => 0
  | x :: r => uptoBulkEntry x + uptoBulkEntries r
def uptoBulkEntry {H : Type} : Lit × DataW H → Nat
  | (.string bytes, d) => bytes.length + uptoBulk d + 1
  | (_, d) => uptoBulk d + 1
 end
def uptoSmall : (H : Type) → List (DataW H) → Bool := fun _ ds => decide (uptoBulkAll ds ≤ 1048576)
def OpenSpec.upto (s : _root_.Go.ChangeSpec) : _root_.Go.OpenSpec := { _root_.Go.OpenSpec.ofChange s with cond := some uptoSmall }

/-- 'amortcostlaw18.UnfoldTuples', WHERE WHAT IT READS IS OF BULK AT MOST 1048576: true; the input reads as it did. -/
def unfoldTuplesUptoRow : OpenClaim := { program := "ythmdahikhngdiaagreat", sum := "efa1a9ab1e71b02e7a052cb6ef20c1dc1657c258b62b3c2e391459ba338d832b", func := "amortcost/amortcostlaw18.UnfoldTuples", spec := "unfoldTuples", unfollowed := true, recurses := true, loops := true, apart := false, narrowed := true }
def UnfoldTuplesUptoSaid : Prop := unfoldTuplesUptoRow.holds Tryz.pinned (OpenSpec.upto unfoldTuplesSpec)

/-- 'amortcostlaw18.UnfoldFolds', WHERE WHAT IT READS IS OF BULK AT MOST 1048576: true; the input reads as it did. -/
def unfoldFoldsUptoRow : OpenClaim := { program := "ythmdahikhngdiaagreat", sum := "efa1a9ab1e71b02e7a052cb6ef20c1dc1657c258b62b3c2e391459ba338d832b", func := "amortcost/amortcostlaw18.UnfoldFolds", spec := "unfoldFolds", unfollowed := true, recurses := true, loops := true, apart := false, narrowed := true }
def UnfoldFoldsUptoSaid : Prop := unfoldFoldsUptoRow.holds Tryz.pinned (OpenSpec.upto unfoldFoldsSpec)

/-- 'amortcostlaw18.UnfoldRows', WHERE WHAT IT READS IS OF BULK AT MOST 1048576: true; the input reads as it did. -/
def unfoldRowsUptoRow : OpenClaim := { program := "ythmdahikhngdiaagreat", sum := "efa1a9ab1e71b02e7a052cb6ef20c1dc1657c258b62b3c2e391459ba338d832b", func := "amortcost/amortcostlaw18.UnfoldRows", spec := "unfoldRows", unfollowed := true, recurses := true, loops := true, apart := false, narrowed := true }
def UnfoldRowsUptoSaid : Prop := unfoldRowsUptoRow.holds Tryz.pinned (OpenSpec.upto unfoldRowsSpec)

/-- 'amortcostlaw18.UnfoldDegrees', WHERE WHAT IT READS IS OF BULK AT MOST 1048576: true; the input reads as it did. -/
def unfoldDegreesUptoRow : OpenClaim := { program := "ythmdahikhngdiaagreat", sum := "efa1a9ab1e71b02e7a052cb6ef20c1dc1657c258b62b3c2e391459ba338d832b", func := "amortcost/amortcostlaw18.UnfoldDegrees", spec := "unfoldDegrees", unfollowed := true, recurses := true, loops := true, apart := false, narrowed := true }
def UnfoldDegreesUptoSaid : Prop := unfoldDegreesUptoRow.holds Tryz.pinned (OpenSpec.upto unfoldDegreesSpec)

/-- 'amortcostlaw18.UnfoldBack', WHERE WHAT IT READS IS OF BULK AT MOST 1048576: true; the input reads as it did. -/
def unfoldBackUptoRow : OpenClaim := { program := "ythmdahikhngdiaagreat", sum := "efa1a9ab1e71b02e7a052cb6ef20c1dc1657c258b62b3c2e391459ba338d832b", func := "amortcost/amortcostlaw18.UnfoldBack", spec := "unfoldBack", unfollowed := true, recurses := true, loops := true, apart := false, narrowed := true }
def UnfoldBackUptoSaid : Prop := unfoldBackUptoRow.holds Tryz.pinned (OpenSpec.upto unfoldBackSpec)

end Rows
end Go.Proofs.YthmdahikhngdiaaGreat
