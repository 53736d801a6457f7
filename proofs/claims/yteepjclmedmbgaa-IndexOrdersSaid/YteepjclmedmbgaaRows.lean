/-
  NARROWER THAN 'FOR EVERY INPUT', by the rows' own cells (each row's printed sentence says how): ValueSizes: loops · ValueOrders: loops · IndexOrders: loops.
  DERIVED. THE GIVEN ROWS OF THIS SEAT. 3 by the template 'for every input the law returns true; each argument reads behind the call as it read before'; 0 by the template 'total and deterministic' (their statements: YteepjclmedmbgaaTotals.lean).
  GIVEN WITH THE SEED: the statements are not yours to turn. If you find one false, say at which input.
  Laid BY PROGRAM, IN A SANDBOX (cutbox-rows.mjs): the forced cells as the released guide's own fill.sh prints them over the translation 89e6b265c6e63017… (all of the seat's roots in one cut). By AI agents, Wed Nov 11 2026. No macro, syntax, notation, axiom, sorry.
-/
import Derived.Test.YteepjclmedmbgaaChecked
import GoSem.Claim
import GoSem.ClaimJoined
import GoSem.ClaimMapViews
import Derived.JoinedTies
import Derived.KernelRfl
namespace Go.Proofs.Yteepjclmedmbgaa
/- THE CELL 'sum', in the pinned program and in every row, IS THE sha256 OF THE DUMP (.gsa) THAT YteepjclmedmbgaaProg.lean LOADS. Nothing in Lean hashes anything: it is a label: what it is worth is what the hold of that sum in a sandbox is worth. -/
noncomputable def Try.pinned : Pinned := { name := "yteepjclmedmbgaa", sum := "89e6b265c6e6301798c3b67985ba65b988b883b2793dfb5b69b1319f5f374504", checked := Try.checked }
namespace Rows
def none {H : Type} : Left H := { results := [], args := [] }

/-- 'amortcostlaw10.ValueSizes': WHATEVER THE INPUT: true; the input reads as it did. -/
def valueSizesSpec : ChangeSpec := { name := "valueSizes", fn := fun _ => fun
  | [d] => { results := [.lit (.bool true)], args := [d] }
  | _ => none }
def valueSizesRow : OpenClaim := { program := "yteepjclmedmbgaa", sum := "89e6b265c6e6301798c3b67985ba65b988b883b2793dfb5b69b1319f5f374504", func := "amortcost/amortcostlaw10.ValueSizes", spec := "valueSizes", recurses := true, loops := true, apart := false }
def ValueSizesSaid : Prop := valueSizesRow.holds Try.pinned (OpenSpec.ofChange valueSizesSpec)

/-- ITS FALSE NEIGHBOUR: 'it returns false'. Refute it at one input. -/
def valueSizesWrong : ChangeSpec := { name := "valueSizes", fn := fun _ => fun
  | [d] => { results := [.lit (.bool false)], args := [d] }
  | _ => none }
def ValueSizesWrongFalsely : Prop := valueSizesRow.holds Try.pinned (OpenSpec.ofChange valueSizesWrong)

/-- 'amortcostlaw10.ValueOrders': WHATEVER THE INPUT: true; the input reads as it did. -/
def valueOrdersSpec : ChangeSpec := { name := "valueOrders", fn := fun _ => fun
  | [d1, d2, d3] => { results := [.lit (.bool true)], args := [d1, d2, d3] }
  | _ => none }
def valueOrdersRow : OpenClaim := { program := "yteepjclmedmbgaa", sum := "89e6b265c6e6301798c3b67985ba65b988b883b2793dfb5b69b1319f5f374504", func := "amortcost/amortcostlaw10.ValueOrders", spec := "valueOrders", recurses := true, loops := true, apart := false }
def ValueOrdersSaid : Prop := valueOrdersRow.holds Try.pinned (OpenSpec.ofChange valueOrdersSpec)

/-- ITS FALSE NEIGHBOUR: 'it returns false'. Refute it at one input. -/
def valueOrdersWrong : ChangeSpec := { name := "valueOrders", fn := fun _ => fun
  | [d1, d2, d3] => { results := [.lit (.bool false)], args := [d1, d2, d3] }
  | _ => none }
def ValueOrdersWrongFalsely : Prop := valueOrdersRow.holds Try.pinned (OpenSpec.ofChange valueOrdersWrong)

/-- 'amortcostlaw15.IndexOrders': WHATEVER THE INPUT: true; the input reads as it did. -/
def indexOrdersSpec : ChangeSpec := { name := "indexOrders", fn := fun _ => fun
  | [d1, d2, d3] => { results := [.lit (.bool true)], args := [d1, d2, d3] }
  | _ => none }
def indexOrdersRow : OpenClaim := { program := "yteepjclmedmbgaa", sum := "89e6b265c6e6301798c3b67985ba65b988b883b2793dfb5b69b1319f5f374504", func := "amortcost/amortcostlaw15.IndexOrders", spec := "indexOrders", recurses := true, loops := true, apart := false }
def IndexOrdersSaid : Prop := indexOrdersRow.holds Try.pinned (OpenSpec.ofChange indexOrdersSpec)

/-- ITS FALSE NEIGHBOUR: 'it returns false'. Refute it at one input. -/
def indexOrdersWrong : ChangeSpec := { name := "indexOrders", fn := fun _ => fun
  | [d1, d2, d3] => { results := [.lit (.bool false)], args := [d1, d2, d3] }
  | _ => none }
def IndexOrdersWrongFalsely : Prop := indexOrdersRow.holds Try.pinned (OpenSpec.ofChange indexOrdersWrong)

/- THE SECOND FORM. 'bulk': how many values and letters a reading holds, each counted each time it is reached (what is shared counts as often as it is met; a slice's spare places count too). A statement '..UptoSaid' is the law's where the arguments, and the package variables that the reading takes, are together of bulk at most 1048576: NARROWER than '..Said'. Prove '..Said' where nothing that the law and all that it calls make is longer than what came in: it says more and counts as full. Else prove '..UptoSaid'. A law counts once. -/
mutual
def uptoBulk {H : Type} : DataW H → Nat
  | .lit (.string bytes) => bytes.length + 1
  | .lit _ => 1
  | .nil => 1
  | .ptr d => uptoBulk d + 1
  | .slice elems spare => uptoBulkAll elems + uptoBulkAll spare + 1
  | .agg parts => uptoBulkAll parts + 1
  | .iface _ d => uptoBulk d + 1
  | .map entries => uptoBulkEntries entries + 1
  | .held _ => 1
def uptoBulkAll {H : Type} : List (DataW H) → Nat
  | [] => 0
  | d :: r => uptoBulk d + uptoBulkAll r
def uptoBulkEntries {H : Type} : List (Lit × DataW H) → Nat
  | [] => 0
  | x :: r => uptoBulkEntry x + uptoBulkEntries r
def uptoBulkEntry {H : Type} : Lit × DataW H → Nat
  | (.string bytes, d) => bytes.length + uptoBulk d + 1
  | (_, d) => uptoBulk d + 1
 end
def uptoSmall : (H : Type) → List (DataW H) → Bool := fun _ ds => decide (uptoBulkAll ds ≤ 1048576)
def OpenSpec.upto (s : _root_.Go.ChangeSpec) : _root_.Go.OpenSpec := { _root_.Go.OpenSpec.ofChange s with cond := some uptoSmall }

/-- 'amortcostlaw10.ValueSizes', WHERE WHAT IT READS IS OF BULK AT MOST 1048576: true; the input reads as it did. -/
def valueSizesUptoRow : OpenClaim := { program := "yteepjclmedmbgaa", sum := "89e6b265c6e6301798c3b67985ba65b988b883b2793dfb5b69b1319f5f374504", func := "amortcost/amortcostlaw10.ValueSizes", spec := "valueSizes", recurses := true, loops := true, apart := false, narrowed := true }
def ValueSizesUptoSaid : Prop := valueSizesUptoRow.holds Try.pinned (OpenSpec.upto valueSizesSpec)

/-- 'amortcostlaw10.ValueOrders', WHERE WHAT IT READS IS OF BULK AT MOST 1048576: true; the input reads as it did. -/
def valueOrdersUptoRow : OpenClaim := { program := "yteepjclmedmbgaa", sum := "89e6b265c6e6301798c3b67985ba65b988b883b2793dfb5b69b1319f5f374504", func := "amortcost/amortcostlaw10.ValueOrders", spec := "valueOrders", recurses := true, loops := true, apart := false, narrowed := true }
def ValueOrdersUptoSaid : Prop := valueOrdersUptoRow.holds Try.pinned (OpenSpec.upto valueOrdersSpec)

/-- 'amortcostlaw15.IndexOrders', WHERE WHAT IT READS IS OF BULK AT MOST 1048576: true; the input reads as it did. -/
def indexOrdersUptoRow : OpenClaim := { program := "yteepjclmedmbgaa", sum := "89e6b265c6e6301798c3b67985ba65b988b883b2793dfb5b69b1319f5f374504", func := "amortcost/amortcostlaw15.IndexOrders", spec := "indexOrders", recurses := true, loops := true, apart := false, narrowed := true }
def IndexOrdersUptoSaid : Prop := indexOrdersUptoRow.holds Try.pinned (OpenSpec.upto indexOrdersSpec)

end Rows
end Go.Proofs.Yteepjclmedmbgaa
