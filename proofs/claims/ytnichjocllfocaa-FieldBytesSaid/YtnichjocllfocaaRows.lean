/-
  No cell of these rows narrows 'for every input' (looked for: loops, veiled, ifaces, maps, wideKeys, modest, calm, conditions, laid).
  DERIVED. THE GIVEN ROWS OF THIS SEAT. 9 by the template 'for every input the law returns true; each argument reads behind the call as it read before'; 0 by the template 'total and deterministic' (their statements: YtnichjocllfocaaTotals.lean).
  GIVEN WITH THE SEED: the statements are not yours to turn. If you find one false, say at which input.
  Laid BY PROGRAM, IN A SANDBOX (cutbox-rows.mjs): the forced cells as the released guide's own fill.sh prints them over the translation 45f807e333414b18… (all of the seat's roots in one cut). By AI agents, Wed Nov 11 2026. No macro, syntax, notation, axiom, sorry.
-/
import Derived.Test.YtnichjocllfocaaChecked
import GoSem.Claim
import GoSem.ClaimJoined
import GoSem.ClaimMapViews
import Derived.JoinedTies
import Derived.KernelRfl
namespace Go.Proofs.Ytnichjocllfocaa
/- THE CELL 'sum', in the pinned program and in every row, IS THE sha256 OF THE DUMP (.gsa) THAT YtnichjocllfocaaProg.lean LOADS. Nothing in Lean hashes anything: it is a label: what it is worth is what the hold of that sum in a sandbox is worth. -/
noncomputable def Try.pinned : Pinned := { name := "ytnichjocllfocaa", sum := "45f807e333414b184619e5a4b4d051c28d319b5a2ac9b90c9769838845bd7710", checked := Try.checked }
namespace Rows
def none {H : Type} : Left H := { results := [], args := [] }

/-- 'greatseallaw01.FieldSums': WHATEVER THE INPUT: true; the input reads as it did. -/
def fieldSumsSpec : ChangeSpec := { name := "fieldSums", fn := fun _ => fun
  | [d1, d2] => { results := [.lit (.bool true)], args := [d1, d2] }
  | _ => none }
def fieldSumsRow : OpenClaim := { program := "ytnichjocllfocaa", sum := "45f807e333414b184619e5a4b4d051c28d319b5a2ac9b90c9769838845bd7710", func := "greatseal/greatseallaw01.FieldSums", spec := "fieldSums", unfollowed := true, recurses := true, apart := false }
def FieldSumsSaid : Prop := fieldSumsRow.holds Try.pinned (OpenSpec.ofChange fieldSumsSpec)

/-- ITS FALSE NEIGHBOUR: 'it returns false'. Refute it at one input. -/
def fieldSumsWrong : ChangeSpec := { name := "fieldSums", fn := fun _ => fun
  | [d1, d2] => { results := [.lit (.bool false)], args := [d1, d2] }
  | _ => none }
def FieldSumsWrongFalsely : Prop := fieldSumsRow.holds Try.pinned (OpenSpec.ofChange fieldSumsWrong)

/-- 'greatseallaw01.FieldProducts': WHATEVER THE INPUT: true; the input reads as it did. -/
def fieldProductsSpec : ChangeSpec := { name := "fieldProducts", fn := fun _ => fun
  | [d1, d2] => { results := [.lit (.bool true)], args := [d1, d2] }
  | _ => none }
def fieldProductsRow : OpenClaim := { program := "ytnichjocllfocaa", sum := "45f807e333414b184619e5a4b4d051c28d319b5a2ac9b90c9769838845bd7710", func := "greatseal/greatseallaw01.FieldProducts", spec := "fieldProducts", unfollowed := true, recurses := true, apart := false }
def FieldProductsSaid : Prop := fieldProductsRow.holds Try.pinned (OpenSpec.ofChange fieldProductsSpec)

/-- ITS FALSE NEIGHBOUR: 'it returns false'. Refute it at one input. -/
def fieldProductsWrong : ChangeSpec := { name := "fieldProducts", fn := fun _ => fun
  | [d1, d2] => { results := [.lit (.bool false)], args := [d1, d2] }
  | _ => none }
def FieldProductsWrongFalsely : Prop := fieldProductsRow.holds Try.pinned (OpenSpec.ofChange fieldProductsWrong)

/-- 'greatseallaw01.FieldReads': WHATEVER THE INPUT: true; the input reads as it did. -/
def fieldReadsSpec : ChangeSpec := { name := "fieldReads", fn := fun _ => fun
  | [d1, d2, d3] => { results := [.lit (.bool true)], args := [d1, d2, d3] }
  | _ => none }
def fieldReadsRow : OpenClaim := { program := "ytnichjocllfocaa", sum := "45f807e333414b184619e5a4b4d051c28d319b5a2ac9b90c9769838845bd7710", func := "greatseal/greatseallaw01.FieldReads", spec := "fieldReads", unfollowed := true, recurses := true, apart := false }
def FieldReadsSaid : Prop := fieldReadsRow.holds Try.pinned (OpenSpec.ofChange fieldReadsSpec)

/-- ITS FALSE NEIGHBOUR: 'it returns false'. Refute it at one input. -/
def fieldReadsWrong : ChangeSpec := { name := "fieldReads", fn := fun _ => fun
  | [d1, d2, d3] => { results := [.lit (.bool false)], args := [d1, d2, d3] }
  | _ => none }
def FieldReadsWrongFalsely : Prop := fieldReadsRow.holds Try.pinned (OpenSpec.ofChange fieldReadsWrong)

/-- 'greatseallaw01.FieldRing': WHATEVER THE INPUT: true; the input reads as it did. -/
def fieldRingSpec : ChangeSpec := { name := "fieldRing", fn := fun _ => fun
  | [d1, d2, d3] => { results := [.lit (.bool true)], args := [d1, d2, d3] }
  | _ => none }
def fieldRingRow : OpenClaim := { program := "ytnichjocllfocaa", sum := "45f807e333414b184619e5a4b4d051c28d319b5a2ac9b90c9769838845bd7710", func := "greatseal/greatseallaw01.FieldRing", spec := "fieldRing", unfollowed := true, recurses := true, apart := false }
def FieldRingSaid : Prop := fieldRingRow.holds Try.pinned (OpenSpec.ofChange fieldRingSpec)

/-- ITS FALSE NEIGHBOUR: 'it returns false'. Refute it at one input. -/
def fieldRingWrong : ChangeSpec := { name := "fieldRing", fn := fun _ => fun
  | [d1, d2, d3] => { results := [.lit (.bool false)], args := [d1, d2, d3] }
  | _ => none }
def FieldRingWrongFalsely : Prop := fieldRingRow.holds Try.pinned (OpenSpec.ofChange fieldRingWrong)

/-- 'greatseallaw01.FieldDivides': WHATEVER THE INPUT: true; the input reads as it did. -/
def fieldDividesSpec : ChangeSpec := { name := "fieldDivides", fn := fun _ => fun
  | [d1, d2] => { results := [.lit (.bool true)], args := [d1, d2] }
  | _ => none }
def fieldDividesRow : OpenClaim := { program := "ytnichjocllfocaa", sum := "45f807e333414b184619e5a4b4d051c28d319b5a2ac9b90c9769838845bd7710", func := "greatseal/greatseallaw01.FieldDivides", spec := "fieldDivides", unfollowed := true, recurses := true, apart := false }
def FieldDividesSaid : Prop := fieldDividesRow.holds Try.pinned (OpenSpec.ofChange fieldDividesSpec)

/-- ITS FALSE NEIGHBOUR: 'it returns false'. Refute it at one input. -/
def fieldDividesWrong : ChangeSpec := { name := "fieldDivides", fn := fun _ => fun
  | [d1, d2] => { results := [.lit (.bool false)], args := [d1, d2] }
  | _ => none }
def FieldDividesWrongFalsely : Prop := fieldDividesRow.holds Try.pinned (OpenSpec.ofChange fieldDividesWrong)

/-- 'greatseallaw01.FieldPowers': WHATEVER THE INPUT: true; the input reads as it did. -/
def fieldPowersSpec : ChangeSpec := { name := "fieldPowers", fn := fun _ => fun
  | [d1, d2, d3, d4] => { results := [.lit (.bool true)], args := [d1, d2, d3, d4] }
  | _ => none }
def fieldPowersRow : OpenClaim := { program := "ytnichjocllfocaa", sum := "45f807e333414b184619e5a4b4d051c28d319b5a2ac9b90c9769838845bd7710", func := "greatseal/greatseallaw01.FieldPowers", spec := "fieldPowers", unfollowed := true, recurses := true, apart := false }
def FieldPowersSaid : Prop := fieldPowersRow.holds Try.pinned (OpenSpec.ofChange fieldPowersSpec)

/-- ITS FALSE NEIGHBOUR: 'it returns false'. Refute it at one input. -/
def fieldPowersWrong : ChangeSpec := { name := "fieldPowers", fn := fun _ => fun
  | [d1, d2, d3, d4] => { results := [.lit (.bool false)], args := [d1, d2, d3, d4] }
  | _ => none }
def FieldPowersWrongFalsely : Prop := fieldPowersRow.holds Try.pinned (OpenSpec.ofChange fieldPowersWrong)

/-- 'greatseallaw01.FieldTells': WHATEVER THE INPUT: true; the input reads as it did. -/
def fieldTellsSpec : ChangeSpec := { name := "fieldTells", fn := fun _ => fun
  | [d1, d2, d3, d4] => { results := [.lit (.bool true)], args := [d1, d2, d3, d4] }
  | _ => none }
def fieldTellsRow : OpenClaim := { program := "ytnichjocllfocaa", sum := "45f807e333414b184619e5a4b4d051c28d319b5a2ac9b90c9769838845bd7710", func := "greatseal/greatseallaw01.FieldTells", spec := "fieldTells", unfollowed := true, recurses := true, apart := false }
def FieldTellsSaid : Prop := fieldTellsRow.holds Try.pinned (OpenSpec.ofChange fieldTellsSpec)

/-- ITS FALSE NEIGHBOUR: 'it returns false'. Refute it at one input. -/
def fieldTellsWrong : ChangeSpec := { name := "fieldTells", fn := fun _ => fun
  | [d1, d2, d3, d4] => { results := [.lit (.bool false)], args := [d1, d2, d3, d4] }
  | _ => none }
def FieldTellsWrongFalsely : Prop := fieldTellsRow.holds Try.pinned (OpenSpec.ofChange fieldTellsWrong)

/-- 'greatseallaw01.FieldBytes': WHATEVER THE INPUT: true; the input reads as it did. -/
def fieldBytesSpec : ChangeSpec := { name := "fieldBytes", fn := fun _ => fun
  | [d1, d2] => { results := [.lit (.bool true)], args := [d1, d2] }
  | _ => none }
def fieldBytesRow : OpenClaim := { program := "ytnichjocllfocaa", sum := "45f807e333414b184619e5a4b4d051c28d319b5a2ac9b90c9769838845bd7710", func := "greatseal/greatseallaw01.FieldBytes", spec := "fieldBytes", unfollowed := true, recurses := true, apart := false }
def FieldBytesSaid : Prop := fieldBytesRow.holds Try.pinned (OpenSpec.ofChange fieldBytesSpec)

/-- ITS FALSE NEIGHBOUR: 'it returns false'. Refute it at one input. -/
def fieldBytesWrong : ChangeSpec := { name := "fieldBytes", fn := fun _ => fun
  | [d1, d2] => { results := [.lit (.bool false)], args := [d1, d2] }
  | _ => none }
def FieldBytesWrongFalsely : Prop := fieldBytesRow.holds Try.pinned (OpenSpec.ofChange fieldBytesWrong)

/-- 'greatseallaw01.FieldPolys': WHATEVER THE INPUT: true; the input reads as it did. -/
def fieldPolysSpec : ChangeSpec := { name := "fieldPolys", fn := fun _ => fun
  | [d1, d2, d3, d4] => { results := [.lit (.bool true)], args := [d1, d2, d3, d4] }
  | _ => none }
def fieldPolysRow : OpenClaim := { program := "ytnichjocllfocaa", sum := "45f807e333414b184619e5a4b4d051c28d319b5a2ac9b90c9769838845bd7710", func := "greatseal/greatseallaw01.FieldPolys", spec := "fieldPolys", unfollowed := true, recurses := true, apart := false }
def FieldPolysSaid : Prop := fieldPolysRow.holds Try.pinned (OpenSpec.ofChange fieldPolysSpec)

/-- ITS FALSE NEIGHBOUR: 'it returns false'. Refute it at one input. -/
def fieldPolysWrong : ChangeSpec := { name := "fieldPolys", fn := fun _ => fun
  | [d1, d2, d3, d4] => { results := [.lit (.bool false)], args := [d1, d2, d3, d4] }
  | _ => none }
def FieldPolysWrongFalsely : Prop := fieldPolysRow.holds Try.pinned (OpenSpec.ofChange fieldPolysWrong)

/- THE SECOND FORM. 'bulk': how many values and letters a reading holds, each counted each time it is reached (what is shared counts as often as it is met; a slice's spare places count too). A statement '..UptoSaid' is the law's where the arguments, and the package variables that the reading takes, are together of bulk at most 1048576: NARROWER than '..Said'. Prove '..Said' where nothing that the law and all that it calls make is longer than what came in: it says more and counts as full. Else prove '..UptoSaid'. A law counts once. -/
mutual
def uptoBulk {H : Type} : DataW H → Nat
  | .lit (.string bytes) => bytes.length + 1
  | .lit _ => 1
  | .nil => 1
  | .ptr d => uptoBulk d + 1
  | .slice elems spare => uptoBulkAll elems + uptoBulkAll spare + 1
  | .agg parts => uptoBulkAll parts + 1
  | .iface _ d => uptoBulk d + 1
  | .map entries => uptoBulkEntries entries + 1
  | .held _ => 1
def uptoBulkAll {H : Type} : List (DataW H) → Nat
  | [] => 0
  | d :: r => uptoBulk d + uptoBulkAll r
def uptoBulkEntries {H : Type} : List (Lit × DataW H) → Nat
  | [] => 0
  | x :: r => uptoBulkEntry x + uptoBulkEntries r
def uptoBulkEntry {H : Type} : Lit × DataW H → Nat
  | (.string bytes, d) => bytes.length + uptoBulk d + 1
  | (_, d) => uptoBulk d + 1
 end
def uptoSmall : (H : Type) → List (DataW H) → Bool := fun _ ds => decide (uptoBulkAll ds ≤ 1048576)
def OpenSpec.upto (s : _root_.Go.ChangeSpec) : _root_.Go.OpenSpec := { _root_.Go.OpenSpec.ofChange s with cond := some uptoSmall }

/-- 'greatseallaw01.FieldSums', WHERE WHAT IT READS IS OF BULK AT MOST 1048576: true; the input reads as it did. -/
def fieldSumsUptoRow : OpenClaim := { program := "ytnichjocllfocaa", sum := "45f807e333414b184619e5a4b4d051c28d319b5a2ac9b90c9769838845bd7710", func := "greatseal/greatseallaw01.FieldSums", spec := "fieldSums", unfollowed := true, recurses := true, apart := false, narrowed := true }
def FieldSumsUptoSaid : Prop := fieldSumsUptoRow.holds Try.pinned (OpenSpec.upto fieldSumsSpec)

/-- 'greatseallaw01.FieldProducts', WHERE WHAT IT READS IS OF BULK AT MOST 1048576: true; the input reads as it did. -/
def fieldProductsUptoRow : OpenClaim := { program := "ytnichjocllfocaa", sum := "45f807e333414b184619e5a4b4d051c28d319b5a2ac9b90c9769838845bd7710", func := "greatseal/greatseallaw01.FieldProducts", spec := "fieldProducts", unfollowed := true, recurses := true, apart := false, narrowed := true }
def FieldProductsUptoSaid : Prop := fieldProductsUptoRow.holds Try.pinned (OpenSpec.upto fieldProductsSpec)

/-- 'greatseallaw01.FieldReads', WHERE WHAT IT READS IS OF BULK AT MOST 1048576: true; the input reads as it did. -/
def fieldReadsUptoRow : OpenClaim := { program := "ytnichjocllfocaa", sum := "45f807e333414b184619e5a4b4d051c28d319b5a2ac9b90c9769838845bd7710", func := "greatseal/greatseallaw01.FieldReads", spec := "fieldReads", unfollowed := true, recurses := true, apart := false, narrowed := true }
def FieldReadsUptoSaid : Prop := fieldReadsUptoRow.holds Try.pinned (OpenSpec.upto fieldReadsSpec)

/-- 'greatseallaw01.FieldRing', WHERE WHAT IT READS IS OF BULK AT MOST 1048576: true; the input reads as it did. -/
def fieldRingUptoRow : OpenClaim := { program := "ytnichjocllfocaa", sum := "45f807e333414b184619e5a4b4d051c28d319b5a2ac9b90c9769838845bd7710", func := "greatseal/greatseallaw01.FieldRing", spec := "fieldRing", unfollowed := true, recurses := true, apart := false, narrowed := true }
def FieldRingUptoSaid : Prop := fieldRingUptoRow.holds Try.pinned (OpenSpec.upto fieldRingSpec)

/-- 'greatseallaw01.FieldDivides', WHERE WHAT IT READS IS OF BULK AT MOST 1048576: true; the input reads as it did. -/
def fieldDividesUptoRow : OpenClaim := { program := "ytnichjocllfocaa", sum := "45f807e333414b184619e5a4b4d051c28d319b5a2ac9b90c9769838845bd7710", func := "greatseal/greatseallaw01.FieldDivides", spec := "fieldDivides", unfollowed := true, recurses := true, apart := false, narrowed := true }
def FieldDividesUptoSaid : Prop := fieldDividesUptoRow.holds Try.pinned (OpenSpec.upto fieldDividesSpec)

/-- 'greatseallaw01.FieldPowers', WHERE WHAT IT READS IS OF BULK AT MOST 1048576: true; the input reads as it did. -/
def fieldPowersUptoRow : OpenClaim := { program := "ytnichjocllfocaa", sum := "45f807e333414b184619e5a4b4d051c28d319b5a2ac9b90c9769838845bd7710", func := "greatseal/greatseallaw01.FieldPowers", spec := "fieldPowers", unfollowed := true, recurses := true, apart := false, narrowed := true }
def FieldPowersUptoSaid : Prop := fieldPowersUptoRow.holds Try.pinned (OpenSpec.upto fieldPowersSpec)

/-- 'greatseallaw01.FieldTells', WHERE WHAT IT READS IS OF BULK AT MOST 1048576: true; the input reads as it did. -/
def fieldTellsUptoRow : OpenClaim := { program := "ytnichjocllfocaa", sum := "45f807e333414b184619e5a4b4d051c28d319b5a2ac9b90c9769838845bd7710", func := "greatseal/greatseallaw01.FieldTells", spec := "fieldTells", unfollowed := true, recurses := true, apart := false, narrowed := true }
def FieldTellsUptoSaid : Prop := fieldTellsUptoRow.holds Try.pinned (OpenSpec.upto fieldTellsSpec)

/-- 'greatseallaw01.FieldBytes', WHERE WHAT IT READS IS OF BULK AT MOST 1048576: true; the input reads as it did. -/
def fieldBytesUptoRow : OpenClaim := { program := "ytnichjocllfocaa", sum := "45f807e333414b184619e5a4b4d051c28d319b5a2ac9b90c9769838845bd7710", func := "greatseal/greatseallaw01.FieldBytes", spec := "fieldBytes", unfollowed := true, recurses := true, apart := false, narrowed := true }
def FieldBytesUptoSaid : Prop := fieldBytesUptoRow.holds Try.pinned (OpenSpec.upto fieldBytesSpec)

/-- 'greatseallaw01.FieldPolys', WHERE WHAT IT READS IS OF BULK AT MOST 1048576: true; the input reads as it did. -/
def fieldPolysUptoRow : OpenClaim := { program := "ytnichjocllfocaa", sum := "45f807e333414b184619e5a4b4d051c28d319b5a2ac9b90c9769838845bd7710", func := "greatseal/greatseallaw01.FieldPolys", spec := "fieldPolys", unfollowed := true, recurses := true, apart := false, narrowed := true }
def FieldPolysUptoSaid : Prop := fieldPolysUptoRow.holds Try.pinned (OpenSpec.upto fieldPolysSpec)

end Rows
end Go.Proofs.Ytnichjocllfocaa
