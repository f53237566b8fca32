/-
  No cell of these rows narrows 'for every input' (looked for: loops, veiled, ifaces, maps, wideKeys, modest, calm, conditions, laid).
  DERIVED. THE GIVEN ROWS OF THIS SEAT. 6 by the template 'for every input the law returns true; each argument reads behind the call as it read before'; 0 by the template 'total and deterministic' (their statements: YtconpdliadhahaaTotals.lean).
  GIVEN WITH THE SEED: the statements are not yours to turn. If you find one false, say at which input.
  Laid BY PROGRAM, IN A SANDBOX (cutbox-rows.mjs): the forced cells as the released guide's own fill.sh prints them over the translation dc2da70cd201e9e7… (all of the seat's roots in one cut). By AI agents, Wed Nov 11 2026. No macro, syntax, notation, axiom, sorry.
-/
import Derived.Test.YtconpdliadhahaaChecked
import GoSem.Claim
import GoSem.ClaimJoined
import GoSem.ClaimMapViews
import Derived.JoinedTies
import Derived.KernelRfl
namespace Go.Proofs.Ytconpdliadhahaa
/- THE CELL 'sum', in the pinned program and in every row, IS THE sha256 OF THE DUMP (.gsa) THAT YtconpdliadhahaaProg.lean LOADS. Nothing in Lean hashes anything: it is a label: what it is worth is what the hold of that sum in a sandbox is worth. -/
noncomputable def Try.pinned : Pinned := { name := "ytconpdliadhahaa", sum := "dc2da70cd201e9e7bb5ec63a1c97e67339c12fde78fc306fe954f1d36a478e0b", checked := Try.checked }
namespace Rows
def none {H : Type} : Left H := { results := [], args := [] }

/-- 'greatseallaw27.RevokeSteps': WHATEVER THE INPUT: true; the input reads as it did. -/
def revokeStepsSpec : ChangeSpec := { name := "revokeSteps", fn := fun _ => fun
  | [d1, d2] => { results := [.lit (.bool true)], args := [d1, d2] }
  | _ => none }
def revokeStepsRow : OpenClaim := { program := "ytconpdliadhahaa", sum := "dc2da70cd201e9e7bb5ec63a1c97e67339c12fde78fc306fe954f1d36a478e0b", func := "greatseal/greatseallaw27.RevokeSteps", spec := "revokeSteps", inPlace := ["slices.overlaps[int]", "math/bits.Add64"], unfollowed := true, recurses := true, named := ["math/bits.divideError", "math/bits.overflowError"], apart := false }
def RevokeStepsSaid : Prop := revokeStepsRow.holds Try.pinned (OpenSpec.ofChange revokeStepsSpec)

/-- ITS FALSE NEIGHBOUR: 'it returns false'. Refute it at one input. -/
def revokeStepsWrong : ChangeSpec := { name := "revokeSteps", fn := fun _ => fun
  | [d1, d2] => { results := [.lit (.bool false)], args := [d1, d2] }
  | _ => none }
def RevokeStepsWrongFalsely : Prop := revokeStepsRow.holds Try.pinned (OpenSpec.ofChange revokeStepsWrong)

/-- 'greatseallaw27.RevokeTells': WHATEVER THE INPUT: true; the input reads as it did. -/
def revokeTellsSpec : ChangeSpec := { name := "revokeTells", fn := fun _ => fun
  | [d1, d2] => { results := [.lit (.bool true)], args := [d1, d2] }
  | _ => none }
def revokeTellsRow : OpenClaim := { program := "ytconpdliadhahaa", sum := "dc2da70cd201e9e7bb5ec63a1c97e67339c12fde78fc306fe954f1d36a478e0b", func := "greatseal/greatseallaw27.RevokeTells", spec := "revokeTells", inPlace := ["slices.overlaps[int]", "math/bits.Add64"], unfollowed := true, recurses := true, named := ["math/bits.divideError", "math/bits.overflowError"], apart := false }
def RevokeTellsSaid : Prop := revokeTellsRow.holds Try.pinned (OpenSpec.ofChange revokeTellsSpec)

/-- ITS FALSE NEIGHBOUR: 'it returns false'. Refute it at one input. -/
def revokeTellsWrong : ChangeSpec := { name := "revokeTells", fn := fun _ => fun
  | [d1, d2] => { results := [.lit (.bool false)], args := [d1, d2] }
  | _ => none }
def RevokeTellsWrongFalsely : Prop := revokeTellsRow.holds Try.pinned (OpenSpec.ofChange revokeTellsWrong)

/-- 'greatseallaw27.RevokeOnce': WHATEVER THE INPUT: true; the input reads as it did. -/
def revokeOnceSpec : ChangeSpec := { name := "revokeOnce", fn := fun _ => fun
  | [d1, d2, d3] => { results := [.lit (.bool true)], args := [d1, d2, d3] }
  | _ => none }
def revokeOnceRow : OpenClaim := { program := "ytconpdliadhahaa", sum := "dc2da70cd201e9e7bb5ec63a1c97e67339c12fde78fc306fe954f1d36a478e0b", func := "greatseal/greatseallaw27.RevokeOnce", spec := "revokeOnce", inPlace := ["slices.overlaps[int]", "math/bits.Add64"], unfollowed := true, recurses := true, named := ["math/bits.divideError", "math/bits.overflowError"], apart := false }
def RevokeOnceSaid : Prop := revokeOnceRow.holds Try.pinned (OpenSpec.ofChange revokeOnceSpec)

/-- ITS FALSE NEIGHBOUR: 'it returns false'. Refute it at one input. -/
def revokeOnceWrong : ChangeSpec := { name := "revokeOnce", fn := fun _ => fun
  | [d1, d2, d3] => { results := [.lit (.bool false)], args := [d1, d2, d3] }
  | _ => none }
def RevokeOnceWrongFalsely : Prop := revokeOnceRow.holds Try.pinned (OpenSpec.ofChange revokeOnceWrong)

/-- 'greatseallaw27.RevokeAdds': WHATEVER THE INPUT: true; the input reads as it did. -/
def revokeAddsSpec : ChangeSpec := { name := "revokeAdds", fn := fun _ => fun
  | [d1, d2, d3] => { results := [.lit (.bool true)], args := [d1, d2, d3] }
  | _ => none }
def revokeAddsRow : OpenClaim := { program := "ytconpdliadhahaa", sum := "dc2da70cd201e9e7bb5ec63a1c97e67339c12fde78fc306fe954f1d36a478e0b", func := "greatseal/greatseallaw27.RevokeAdds", spec := "revokeAdds", inPlace := ["slices.overlaps[int]", "math/bits.Add64"], unfollowed := true, recurses := true, named := ["math/bits.divideError", "math/bits.overflowError"], apart := false }
def RevokeAddsSaid : Prop := revokeAddsRow.holds Try.pinned (OpenSpec.ofChange revokeAddsSpec)

/-- ITS FALSE NEIGHBOUR: 'it returns false'. Refute it at one input. -/
def revokeAddsWrong : ChangeSpec := { name := "revokeAdds", fn := fun _ => fun
  | [d1, d2, d3] => { results := [.lit (.bool false)], args := [d1, d2, d3] }
  | _ => none }
def RevokeAddsWrongFalsely : Prop := revokeAddsRow.holds Try.pinned (OpenSpec.ofChange revokeAddsWrong)

/-- 'greatseallaw27.RevokeStays': WHATEVER THE INPUT: true; the input reads as it did. -/
def revokeStaysSpec : ChangeSpec := { name := "revokeStays", fn := fun _ => fun
  | [d1, d2] => { results := [.lit (.bool true)], args := [d1, d2] }
  | _ => none }
def revokeStaysRow : OpenClaim := { program := "ytconpdliadhahaa", sum := "dc2da70cd201e9e7bb5ec63a1c97e67339c12fde78fc306fe954f1d36a478e0b", func := "greatseal/greatseallaw27.RevokeStays", spec := "revokeStays", inPlace := ["slices.overlaps[int]", "math/bits.Add64"], unfollowed := true, recurses := true, named := ["math/bits.divideError", "math/bits.overflowError"], apart := false }
def RevokeStaysSaid : Prop := revokeStaysRow.holds Try.pinned (OpenSpec.ofChange revokeStaysSpec)

/-- ITS FALSE NEIGHBOUR: 'it returns false'. Refute it at one input. -/
def revokeStaysWrong : ChangeSpec := { name := "revokeStays", fn := fun _ => fun
  | [d1, d2] => { results := [.lit (.bool false)], args := [d1, d2] }
  | _ => none }
def RevokeStaysWrongFalsely : Prop := revokeStaysRow.holds Try.pinned (OpenSpec.ofChange revokeStaysWrong)

/-- 'greatseallaw27.RevokeAll': WHATEVER THE INPUT: true; the input reads as it did. -/
def revokeAllSpec : ChangeSpec := { name := "revokeAll", fn := fun _ => fun
  | [d1, d2] => { results := [.lit (.bool true)], args := [d1, d2] }
  | _ => none }
def revokeAllRow : OpenClaim := { program := "ytconpdliadhahaa", sum := "dc2da70cd201e9e7bb5ec63a1c97e67339c12fde78fc306fe954f1d36a478e0b", func := "greatseal/greatseallaw27.RevokeAll", spec := "revokeAll", inPlace := ["slices.overlaps[int]", "math/bits.Add64"], unfollowed := true, recurses := true, named := ["math/bits.divideError", "math/bits.overflowError"], apart := false }
def RevokeAllSaid : Prop := revokeAllRow.holds Try.pinned (OpenSpec.ofChange revokeAllSpec)

/-- ITS FALSE NEIGHBOUR: 'it returns false'. Refute it at one input. -/
def revokeAllWrong : ChangeSpec := { name := "revokeAll", fn := fun _ => fun
  | [d1, d2] => { results := [.lit (.bool false)], args := [d1, d2] }
  | _ => none }
def RevokeAllWrongFalsely : Prop := revokeAllRow.holds Try.pinned (OpenSpec.ofChange revokeAllWrong)

/- THE SECOND FORM. 'bulk': how many values and letters a reading holds, each counted each time it is reached (what is shared counts as often as it is met; a slice's spare places count too). A statement '..UptoSaid' is the law's where the arguments, and the package variables that the reading takes, are together of bulk at most 1048576: NARROWER than '..Said'. Prove '..Said' where nothing that the law and all that it calls make is longer than what came in: it says more and counts as full. Else prove '..UptoSaid'. A law counts once. -/
mutual
def uptoBulk {H : Type} : DataW H → Nat
  | .lit (.string bytes) => bytes.length + 1
  | .lit _ => 1
  | .nil => 1
  | .ptr d => uptoBulk d + 1
  | .slice elems spare => uptoBulkAll elems + uptoBulkAll spare + 1
  | .agg parts => uptoBulkAll parts + 1
  | .iface _ d => uptoBulk d + 1
  | .map entries => uptoBulkEntries entries + 1
  | .held _ => 1
def uptoBulkAll {H : Type} : List (DataW H) → Nat
  | [] => 0
  | d :: r => uptoBulk d + uptoBulkAll r
def uptoBulkEntries {H : Type} : List (Lit × DataW H) → Nat
  | [] => 0
  | x :: r => uptoBulkEntry x + uptoBulkEntries r
def uptoBulkEntry {H : Type} : Lit × DataW H → Nat
  | (.string bytes, d) => bytes.length + uptoBulk d + 1
  | (_, d) => uptoBulk d + 1
 end
def uptoSmall : (H : Type) → List (DataW H) → Bool := fun _ ds => decide (uptoBulkAll ds ≤ 1048576)
def OpenSpec.upto (s : _root_.Go.ChangeSpec) : _root_.Go.OpenSpec := { _root_.Go.OpenSpec.ofChange s with cond := some uptoSmall }

/-- 'greatseallaw27.RevokeSteps', WHERE WHAT IT READS IS OF BULK AT MOST 1048576: true; the input reads as it did. -/
def revokeStepsUptoRow : OpenClaim := { program := "ytconpdliadhahaa", sum := "dc2da70cd201e9e7bb5ec63a1c97e67339c12fde78fc306fe954f1d36a478e0b", func := "greatseal/greatseallaw27.RevokeSteps", spec := "revokeSteps", inPlace := ["slices.overlaps[int]", "math/bits.Add64"], unfollowed := true, recurses := true, named := ["math/bits.divideError", "math/bits.overflowError"], apart := false, narrowed := true }
def RevokeStepsUptoSaid : Prop := revokeStepsUptoRow.holds Try.pinned (OpenSpec.upto revokeStepsSpec)

/-- 'greatseallaw27.RevokeTells', WHERE WHAT IT READS IS OF BULK AT MOST 1048576: true; the input reads as it did. -/
def revokeTellsUptoRow : OpenClaim := { program := "ytconpdliadhahaa", sum := "dc2da70cd201e9e7bb5ec63a1c97e67339c12fde78fc306fe954f1d36a478e0b", func := "greatseal/greatseallaw27.RevokeTells", spec := "revokeTells", inPlace := ["slices.overlaps[int]", "math/bits.Add64"], unfollowed := true, recurses := true, named := ["math/bits.divideError", "math/bits.overflowError"], apart := false, narrowed := true }
def RevokeTellsUptoSaid : Prop := revokeTellsUptoRow.holds Try.pinned (OpenSpec.upto revokeTellsSpec)

/-- 'greatseallaw27.RevokeOnce', WHERE WHAT IT READS IS OF BULK AT MOST 1048576: true; the input reads as it did. -/
def revokeOnceUptoRow : OpenClaim := { program := "ytconpdliadhahaa", sum := "dc2da70cd201e9e7bb5ec63a1c97e67339c12fde78fc306fe954f1d36a478e0b", func := "greatseal/greatseallaw27.RevokeOnce", spec := "revokeOnce", inPlace := ["slices.overlaps[int]", "math/bits.Add64"], unfollowed := true, recurses := true, named := ["math/bits.divideError", "math/bits.overflowError"], apart := false, narrowed := true }
def RevokeOnceUptoSaid : Prop := revokeOnceUptoRow.holds Try.pinned (OpenSpec.upto revokeOnceSpec)

/-- 'greatseallaw27.RevokeAdds', WHERE WHAT IT READS IS OF BULK AT MOST 1048576: true; the input reads as it did. -/
def revokeAddsUptoRow : OpenClaim := { program := "ytconpdliadhahaa", sum := "dc2da70cd201e9e7bb5ec63a1c97e67339c12fde78fc306fe954f1d36a478e0b", func := "greatseal/greatseallaw27.RevokeAdds", spec := "revokeAdds", inPlace := ["slices.overlaps[int]", "math/bits.Add64"], unfollowed := true, recurses := true, named := ["math/bits.divideError", "math/bits.overflowError"], apart := false, narrowed := true }
def RevokeAddsUptoSaid : Prop := revokeAddsUptoRow.holds Try.pinned (OpenSpec.upto revokeAddsSpec)

/-- 'greatseallaw27.RevokeStays', WHERE WHAT IT READS IS OF BULK AT MOST 1048576: true; the input reads as it did. -/
def revokeStaysUptoRow : OpenClaim := { program := "ytconpdliadhahaa", sum := "dc2da70cd201e9e7bb5ec63a1c97e67339c12fde78fc306fe954f1d36a478e0b", func := "greatseal/greatseallaw27.RevokeStays", spec := "revokeStays", inPlace := ["slices.overlaps[int]", "math/bits.Add64"], unfollowed := true, recurses := true, named := ["math/bits.divideError", "math/bits.overflowError"], apart := false, narrowed := true }
def RevokeStaysUptoSaid : Prop := revokeStaysUptoRow.holds Try.pinned (OpenSpec.upto revokeStaysSpec)

/-- 'greatseallaw27.RevokeAll', WHERE WHAT IT READS IS OF BULK AT MOST 1048576: true; the input reads as it did. -/
def revokeAllUptoRow : OpenClaim := { program := "ytconpdliadhahaa", sum := "dc2da70cd201e9e7bb5ec63a1c97e67339c12fde78fc306fe954f1d36a478e0b", func := "greatseal/greatseallaw27.RevokeAll", spec := "revokeAll", inPlace := ["slices.overlaps[int]", "math/bits.Add64"], unfollowed := true, recurses := true, named := ["math/bits.divideError", "math/bits.overflowError"], apart := false, narrowed := true }
def RevokeAllUptoSaid : Prop := revokeAllUptoRow.holds Try.pinned (OpenSpec.upto revokeAllSpec)

end Rows
end Go.Proofs.Ytconpdliadhahaa
