/-
  No cell of these rows narrows 'for every input' (looked for: loops, veiled, ifaces, maps, wideKeys, modest, calm, conditions, laid).
  DERIVED. THE GIVEN ROWS OF THIS SEAT. 8 by the template 'for every input the law returns true; each argument reads behind the call as it read before'; 0 by the template 'total and deterministic' (their statements: YtpemahllpbadcaaTotals.lean).
  GIVEN WITH THE SEED: the statements are not yours to turn. If you find one false, say at which input.
  Laid BY PROGRAM, IN A SANDBOX (cutbox-rows.mjs): the forced cells as the released guide's own fill.sh prints them over the translation 5692dace0b90e53f… (all of the seat's roots in one cut). By AI agents, Wed Nov 11 2026. No macro, syntax, notation, axiom, sorry.
-/
import Derived.Test.YtpemahllpbadcaaChecked
import GoSem.Claim
import GoSem.ClaimJoined
import GoSem.ClaimMapViews
import Derived.JoinedTies
import Derived.KernelRfl
namespace Go.Proofs.Ytpemahllpbadcaa
/- THE CELL 'sum', in the pinned program and in every row, IS THE sha256 OF THE DUMP (.gsa) THAT YtpemahllpbadcaaProg.lean LOADS. Nothing in Lean hashes anything: it is a label: what it is worth is what the hold of that sum in a sandbox is worth. -/
noncomputable def Try.pinned : Pinned := { name := "ytpemahllpbadcaa", sum := "5692dace0b90e53f4ac06a0037fe91e9fd4844333decebeb78dd37e90cc34315", checked := Try.checked }
namespace Rows
def none {H : Type} : Left H := { results := [], args := [] }

/-- 'greatseallaw20.WalPuts': WHATEVER THE INPUT: true; the input reads as it did. -/
def walPutsSpec : ChangeSpec := { name := "walPuts", fn := fun _ => fun
  | [d1, d2] => { results := [.lit (.bool true)], args := [d1, d2] }
  | _ => none }
def walPutsRow : OpenClaim := { program := "ytpemahllpbadcaa", sum := "5692dace0b90e53f4ac06a0037fe91e9fd4844333decebeb78dd37e90cc34315", func := "greatseal/greatseallaw20.WalPuts", spec := "walPuts", unfollowed := true, recurses := true, apart := false }
def WalPutsSaid : Prop := walPutsRow.holds Try.pinned (OpenSpec.ofChange walPutsSpec)

/-- ITS FALSE NEIGHBOUR: 'it returns false'. Refute it at one input. -/
def walPutsWrong : ChangeSpec := { name := "walPuts", fn := fun _ => fun
  | [d1, d2] => { results := [.lit (.bool false)], args := [d1, d2] }
  | _ => none }
def WalPutsWrongFalsely : Prop := walPutsRow.holds Try.pinned (OpenSpec.ofChange walPutsWrong)

/-- 'greatseallaw20.WalReads': WHATEVER THE INPUT: true; the input reads as it did. -/
def walReadsSpec : ChangeSpec := { name := "walReads", fn := fun _ => fun
  | [d1, d2] => { results := [.lit (.bool true)], args := [d1, d2] }
  | _ => none }
def walReadsRow : OpenClaim := { program := "ytpemahllpbadcaa", sum := "5692dace0b90e53f4ac06a0037fe91e9fd4844333decebeb78dd37e90cc34315", func := "greatseal/greatseallaw20.WalReads", spec := "walReads", unfollowed := true, recurses := true, apart := false }
def WalReadsSaid : Prop := walReadsRow.holds Try.pinned (OpenSpec.ofChange walReadsSpec)

/-- ITS FALSE NEIGHBOUR: 'it returns false'. Refute it at one input. -/
def walReadsWrong : ChangeSpec := { name := "walReads", fn := fun _ => fun
  | [d1, d2] => { results := [.lit (.bool false)], args := [d1, d2] }
  | _ => none }
def WalReadsWrongFalsely : Prop := walReadsRow.holds Try.pinned (OpenSpec.ofChange walReadsWrong)

/-- 'greatseallaw20.WalKeeps': WHATEVER THE INPUT: true; the input reads as it did. -/
def walKeepsSpec : ChangeSpec := { name := "walKeeps", fn := fun _ => fun
  | [d1, d2, d3] => { results := [.lit (.bool true)], args := [d1, d2, d3] }
  | _ => none }
def walKeepsRow : OpenClaim := { program := "ytpemahllpbadcaa", sum := "5692dace0b90e53f4ac06a0037fe91e9fd4844333decebeb78dd37e90cc34315", func := "greatseal/greatseallaw20.WalKeeps", spec := "walKeeps", unfollowed := true, recurses := true, apart := false }
def WalKeepsSaid : Prop := walKeepsRow.holds Try.pinned (OpenSpec.ofChange walKeepsSpec)

/-- ITS FALSE NEIGHBOUR: 'it returns false'. Refute it at one input. -/
def walKeepsWrong : ChangeSpec := { name := "walKeeps", fn := fun _ => fun
  | [d1, d2, d3] => { results := [.lit (.bool false)], args := [d1, d2, d3] }
  | _ => none }
def WalKeepsWrongFalsely : Prop := walKeepsRow.holds Try.pinned (OpenSpec.ofChange walKeepsWrong)

/-- 'greatseallaw20.WalBack': WHATEVER THE INPUT: true; the input reads as it did. -/
def walBackSpec : ChangeSpec := { name := "walBack", fn := fun _ => fun
  | [d1, d2] => { results := [.lit (.bool true)], args := [d1, d2] }
  | _ => none }
def walBackRow : OpenClaim := { program := "ytpemahllpbadcaa", sum := "5692dace0b90e53f4ac06a0037fe91e9fd4844333decebeb78dd37e90cc34315", func := "greatseal/greatseallaw20.WalBack", spec := "walBack", unfollowed := true, recurses := true, apart := false }
def WalBackSaid : Prop := walBackRow.holds Try.pinned (OpenSpec.ofChange walBackSpec)

/-- ITS FALSE NEIGHBOUR: 'it returns false'. Refute it at one input. -/
def walBackWrong : ChangeSpec := { name := "walBack", fn := fun _ => fun
  | [d1, d2] => { results := [.lit (.bool false)], args := [d1, d2] }
  | _ => none }
def WalBackWrongFalsely : Prop := walBackRow.holds Try.pinned (OpenSpec.ofChange walBackWrong)

/-- 'greatseallaw20.WalMore': WHATEVER THE INPUT: true; the input reads as it did. -/
def walMoreSpec : ChangeSpec := { name := "walMore", fn := fun _ => fun
  | [d1, d2, d3] => { results := [.lit (.bool true)], args := [d1, d2, d3] }
  | _ => none }
def walMoreRow : OpenClaim := { program := "ytpemahllpbadcaa", sum := "5692dace0b90e53f4ac06a0037fe91e9fd4844333decebeb78dd37e90cc34315", func := "greatseal/greatseallaw20.WalMore", spec := "walMore", unfollowed := true, recurses := true, apart := false }
def WalMoreSaid : Prop := walMoreRow.holds Try.pinned (OpenSpec.ofChange walMoreSpec)

/-- ITS FALSE NEIGHBOUR: 'it returns false'. Refute it at one input. -/
def walMoreWrong : ChangeSpec := { name := "walMore", fn := fun _ => fun
  | [d1, d2, d3] => { results := [.lit (.bool false)], args := [d1, d2, d3] }
  | _ => none }
def WalMoreWrongFalsely : Prop := walMoreRow.holds Try.pinned (OpenSpec.ofChange walMoreWrong)

/-- 'greatseallaw20.WalFixed': WHATEVER THE INPUT: true; the input reads as it did. -/
def walFixedSpec : ChangeSpec := { name := "walFixed", fn := fun _ => fun
  | [d1, d2] => { results := [.lit (.bool true)], args := [d1, d2] }
  | _ => none }
def walFixedRow : OpenClaim := { program := "ytpemahllpbadcaa", sum := "5692dace0b90e53f4ac06a0037fe91e9fd4844333decebeb78dd37e90cc34315", func := "greatseal/greatseallaw20.WalFixed", spec := "walFixed", unfollowed := true, recurses := true, apart := false }
def WalFixedSaid : Prop := walFixedRow.holds Try.pinned (OpenSpec.ofChange walFixedSpec)

/-- ITS FALSE NEIGHBOUR: 'it returns false'. Refute it at one input. -/
def walFixedWrong : ChangeSpec := { name := "walFixed", fn := fun _ => fun
  | [d1, d2] => { results := [.lit (.bool false)], args := [d1, d2] }
  | _ => none }
def WalFixedWrongFalsely : Prop := walFixedRow.holds Try.pinned (OpenSpec.ofChange walFixedWrong)

/-- 'greatseallaw20.WalSame': WHATEVER THE INPUT: true; the input reads as it did. -/
def walSameSpec : ChangeSpec := { name := "walSame", fn := fun _ => fun
  | [d1, d2] => { results := [.lit (.bool true)], args := [d1, d2] }
  | _ => none }
def walSameRow : OpenClaim := { program := "ytpemahllpbadcaa", sum := "5692dace0b90e53f4ac06a0037fe91e9fd4844333decebeb78dd37e90cc34315", func := "greatseal/greatseallaw20.WalSame", spec := "walSame", unfollowed := true, recurses := true, apart := false }
def WalSameSaid : Prop := walSameRow.holds Try.pinned (OpenSpec.ofChange walSameSpec)

/-- ITS FALSE NEIGHBOUR: 'it returns false'. Refute it at one input. -/
def walSameWrong : ChangeSpec := { name := "walSame", fn := fun _ => fun
  | [d1, d2] => { results := [.lit (.bool false)], args := [d1, d2] }
  | _ => none }
def WalSameWrongFalsely : Prop := walSameRow.holds Try.pinned (OpenSpec.ofChange walSameWrong)

/-- 'greatseallaw20.WalParts': WHATEVER THE INPUT: true; the input reads as it did. -/
def walPartsSpec : ChangeSpec := { name := "walParts", fn := fun _ => fun
  | [d1, d2] => { results := [.lit (.bool true)], args := [d1, d2] }
  | _ => none }
def walPartsRow : OpenClaim := { program := "ytpemahllpbadcaa", sum := "5692dace0b90e53f4ac06a0037fe91e9fd4844333decebeb78dd37e90cc34315", func := "greatseal/greatseallaw20.WalParts", spec := "walParts", unfollowed := true, recurses := true, apart := false }
def WalPartsSaid : Prop := walPartsRow.holds Try.pinned (OpenSpec.ofChange walPartsSpec)

/-- ITS FALSE NEIGHBOUR: 'it returns false'. Refute it at one input. -/
def walPartsWrong : ChangeSpec := { name := "walParts", fn := fun _ => fun
  | [d1, d2] => { results := [.lit (.bool false)], args := [d1, d2] }
  | _ => none }
def WalPartsWrongFalsely : Prop := walPartsRow.holds Try.pinned (OpenSpec.ofChange walPartsWrong)

/- THE SECOND FORM. 'bulk': how many values and letters a reading holds, each counted each time it is reached (what is shared counts as often as it is met; a slice's spare places count too). A statement '..UptoSaid' is the law's where the arguments, and the package variables that the reading takes, are together of bulk at most 1048576: NARROWER than '..Said'. Prove '..Said' where nothing that the law and all that it calls make is longer than what came in: it says more and counts as full. Else prove '..UptoSaid'. A law counts once. -/
mutual
def uptoBulk {H : Type} : DataW H → Nat
  | .lit (.string bytes) => bytes.length + 1
  | .lit _ => 1
  | .nil => 1
  | .ptr d => uptoBulk d + 1
  | .slice elems spare => uptoBulkAll elems + uptoBulkAll spare + 1
  | .agg parts => uptoBulkAll parts + 1
  | .iface _ d => uptoBulk d + 1
  | .map entries => uptoBulkEntries entries + 1
  | .held _ => 1
def uptoBulkAll {H : Type} : List (DataW H) → Nat
  | [] => 0
  | d :: r => uptoBulk d + uptoBulkAll r
def uptoBulkEntries {H : Type} : List (Lit × DataW H) → Nat
  | [] => 0
  | x :: r => uptoBulkEntry x + uptoBulkEntries r
def uptoBulkEntry {H : Type} : Lit × DataW H → Nat
  | (.string bytes, d) => bytes.length + uptoBulk d + 1
  | (_, d) => uptoBulk d + 1
 end
def uptoSmall : (H : Type) → List (DataW H) → Bool := fun _ ds => decide (uptoBulkAll ds ≤ 1048576)
def OpenSpec.upto (s : _root_.Go.ChangeSpec) : _root_.Go.OpenSpec := { _root_.Go.OpenSpec.ofChange s with cond := some uptoSmall }

/-- 'greatseallaw20.WalPuts', WHERE WHAT IT READS IS OF BULK AT MOST 1048576: true; the input reads as it did. -/
def walPutsUptoRow : OpenClaim := { program := "ytpemahllpbadcaa", sum := "5692dace0b90e53f4ac06a0037fe91e9fd4844333decebeb78dd37e90cc34315", func := "greatseal/greatseallaw20.WalPuts", spec := "walPuts", unfollowed := true, recurses := true, apart := false, narrowed := true }
def WalPutsUptoSaid : Prop := walPutsUptoRow.holds Try.pinned (OpenSpec.upto walPutsSpec)

/-- 'greatseallaw20.WalReads', WHERE WHAT IT READS IS OF BULK AT MOST 1048576: true; the input reads as it did. -/
def walReadsUptoRow : OpenClaim := { program := "ytpemahllpbadcaa", sum := "5692dace0b90e53f4ac06a0037fe91e9fd4844333decebeb78dd37e90cc34315", func := "greatseal/greatseallaw20.WalReads", spec := "walReads", unfollowed := true, recurses := true, apart := false, narrowed := true }
def WalReadsUptoSaid : Prop := walReadsUptoRow.holds Try.pinned (OpenSpec.upto walReadsSpec)

/-- 'greatseallaw20.WalKeeps', WHERE WHAT IT READS IS OF BULK AT MOST 1048576: true; the input reads as it did. -/
def walKeepsUptoRow : OpenClaim := { program := "ytpemahllpbadcaa", sum := "5692dace0b90e53f4ac06a0037fe91e9fd4844333decebeb78dd37e90cc34315", func := "greatseal/greatseallaw20.WalKeeps", spec := "walKeeps", unfollowed := true, recurses := true, apart := false, narrowed := true }
def WalKeepsUptoSaid : Prop := walKeepsUptoRow.holds Try.pinned (OpenSpec.upto walKeepsSpec)

/-- 'greatseallaw20.WalBack', WHERE WHAT IT READS IS OF BULK AT MOST 1048576: true; the input reads as it did. -/
def walBackUptoRow : OpenClaim := { program := "ytpemahllpbadcaa", sum := "5692dace0b90e53f4ac06a0037fe91e9fd4844333decebeb78dd37e90cc34315", func := "greatseal/greatseallaw20.WalBack", spec := "walBack", unfollowed := true, recurses := true, apart := false, narrowed := true }
def WalBackUptoSaid : Prop := walBackUptoRow.holds Try.pinned (OpenSpec.upto walBackSpec)

/-- 'greatseallaw20.WalMore', WHERE WHAT IT READS IS OF BULK AT MOST 1048576: true; the input reads as it did. -/
def walMoreUptoRow : OpenClaim := { program := "ytpemahllpbadcaa", sum := "5692dace0b90e53f4ac06a0037fe91e9fd4844333decebeb78dd37e90cc34315", func := "greatseal/greatseallaw20.WalMore", spec := "walMore", unfollowed := true, recurses := true, apart := false, narrowed := true }
def WalMoreUptoSaid : Prop := walMoreUptoRow.holds Try.pinned (OpenSpec.upto walMoreSpec)

/-- 'greatseallaw20.WalFixed', WHERE WHAT IT READS IS OF BULK AT MOST 1048576: true; the input reads as it did. -/
def walFixedUptoRow : OpenClaim := { program := "ytpemahllpbadcaa", sum := "5692dace0b90e53f4ac06a0037fe91e9fd4844333decebeb78dd37e90cc34315", func := "greatseal/greatseallaw20.WalFixed", spec := "walFixed", unfollowed := true, recurses := true, apart := false, narrowed := true }
def WalFixedUptoSaid : Prop := walFixedUptoRow.holds Try.pinned (OpenSpec.upto walFixedSpec)

/-- 'greatseallaw20.WalSame', WHERE WHAT IT READS IS OF BULK AT MOST 1048576: true; the input reads as it did. -/
def walSameUptoRow : OpenClaim := { program := "ytpemahllpbadcaa", sum := "5692dace0b90e53f4ac06a0037fe91e9fd4844333decebeb78dd37e90cc34315", func := "greatseal/greatseallaw20.WalSame", spec := "walSame", unfollowed := true, recurses := true, apart := false, narrowed := true }
def WalSameUptoSaid : Prop := walSameUptoRow.holds Try.pinned (OpenSpec.upto walSameSpec)

/-- 'greatseallaw20.WalParts', WHERE WHAT IT READS IS OF BULK AT MOST 1048576: true; the input reads as it did. -/
def walPartsUptoRow : OpenClaim := { program := "ytpemahllpbadcaa", sum := "5692dace0b90e53f4ac06a0037fe91e9fd4844333decebeb78dd37e90cc34315", func := "greatseal/greatseallaw20.WalParts", spec := "walParts", unfollowed := true, recurses := true, apart := false, narrowed := true }
def WalPartsUptoSaid : Prop := walPartsUptoRow.holds Try.pinned (OpenSpec.upto walPartsSpec)

end Rows
end Go.Proofs.Ytpemahllpbadcaa
