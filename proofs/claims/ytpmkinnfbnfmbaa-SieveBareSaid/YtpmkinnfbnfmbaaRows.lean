/-
  No cell of these rows narrows 'for every input' (looked for: loops, veiled, ifaces, maps, wideKeys, modest, calm, conditions, laid).
  DERIVED. THE GIVEN ROWS OF THIS SEAT. 6 by the template 'for every input the law returns true; each argument reads behind the call as it read before'; 0 by the template 'total and deterministic' (their statements: YtpmkinnfbnfmbaaTotals.lean).
  GIVEN WITH THE SEED: the statements are not yours to turn. If you find one false, say at which input.
  Laid BY PROGRAM, IN A SANDBOX (cutbox-rows.mjs): the forced cells as the released guide's own fill.sh prints them over the translation cb28f32a5d99d7c7… (all of the seat's roots in one cut). By AI agents, Wed Nov 11 2026. No macro, syntax, notation, axiom, sorry.
-/
import Derived.Test.YtpmkinnfbnfmbaaChecked
import GoSem.Claim
import GoSem.ClaimJoined
import GoSem.ClaimMapViews
import Derived.JoinedTies
import Derived.KernelRfl
namespace Go.Proofs.Ytpmkinnfbnfmbaa
/- THE CELL 'sum', in the pinned program and in every row, IS THE sha256 OF THE DUMP (.gsa) THAT YtpmkinnfbnfmbaaProg.lean LOADS. Nothing in Lean hashes anything: it is a label: what it is worth is what the hold of that sum in a sandbox is worth. -/
noncomputable def Try.pinned : Pinned := { name := "ytpmkinnfbnfmbaa", sum := "cb28f32a5d99d7c7e8dd16934d7edcdedc1815a391b90b8337bc15f85cc44c7b", checked := Try.checked }
namespace Rows
def none {H : Type} : Left H := { results := [], args := [] }

/-- 'greatseallaw09.SieveGrows': WHATEVER THE INPUT: true; the input reads as it did. -/
def sieveGrowsSpec : ChangeSpec := { name := "sieveGrows", fn := fun _ => fun
  | [d1, d2, d3] => { results := [.lit (.bool true)], args := [d1, d2, d3] }
  | _ => none }
def sieveGrowsRow : OpenClaim := { program := "ytpmkinnfbnfmbaa", sum := "cb28f32a5d99d7c7e8dd16934d7edcdedc1815a391b90b8337bc15f85cc44c7b", func := "greatseal/greatseallaw09.SieveGrows", spec := "sieveGrows", inPlace := ["math/bits.Add64"], unfollowed := true, recurses := true, named := ["math/bits.divideError", "math/bits.overflowError"], apart := false }
def SieveGrowsSaid : Prop := sieveGrowsRow.holds Try.pinned (OpenSpec.ofChange sieveGrowsSpec)

/-- ITS FALSE NEIGHBOUR: 'it returns false'. Refute it at one input. -/
def sieveGrowsWrong : ChangeSpec := { name := "sieveGrows", fn := fun _ => fun
  | [d1, d2, d3] => { results := [.lit (.bool false)], args := [d1, d2, d3] }
  | _ => none }
def SieveGrowsWrongFalsely : Prop := sieveGrowsRow.holds Try.pinned (OpenSpec.ofChange sieveGrowsWrong)

/-- 'greatseallaw09.SieveBare': WHATEVER THE INPUT: true; the input reads as it did. -/
def sieveBareSpec : ChangeSpec := { name := "sieveBare", fn := fun _ => fun
  | [d1, d2, d3, d4] => { results := [.lit (.bool true)], args := [d1, d2, d3, d4] }
  | _ => none }
def sieveBareRow : OpenClaim := { program := "ytpmkinnfbnfmbaa", sum := "cb28f32a5d99d7c7e8dd16934d7edcdedc1815a391b90b8337bc15f85cc44c7b", func := "greatseal/greatseallaw09.SieveBare", spec := "sieveBare", inPlace := ["math/bits.Add64"], unfollowed := true, recurses := true, named := ["math/bits.divideError", "math/bits.overflowError"], apart := false }
def SieveBareSaid : Prop := sieveBareRow.holds Try.pinned (OpenSpec.ofChange sieveBareSpec)

/-- ITS FALSE NEIGHBOUR: 'it returns false'. Refute it at one input. -/
def sieveBareWrong : ChangeSpec := { name := "sieveBare", fn := fun _ => fun
  | [d1, d2, d3, d4] => { results := [.lit (.bool false)], args := [d1, d2, d3, d4] }
  | _ => none }
def SieveBareWrongFalsely : Prop := sieveBareRow.holds Try.pinned (OpenSpec.ofChange sieveBareWrong)

/-- 'greatseallaw09.SieveSome': WHATEVER THE INPUT: true; the input reads as it did. -/
def sieveSomeSpec : ChangeSpec := { name := "sieveSome", fn := fun _ => fun
  | [d1, d2, d3] => { results := [.lit (.bool true)], args := [d1, d2, d3] }
  | _ => none }
def sieveSomeRow : OpenClaim := { program := "ytpmkinnfbnfmbaa", sum := "cb28f32a5d99d7c7e8dd16934d7edcdedc1815a391b90b8337bc15f85cc44c7b", func := "greatseal/greatseallaw09.SieveSome", spec := "sieveSome", inPlace := ["math/bits.Add64"], unfollowed := true, recurses := true, named := ["math/bits.divideError", "math/bits.overflowError"], apart := false }
def SieveSomeSaid : Prop := sieveSomeRow.holds Try.pinned (OpenSpec.ofChange sieveSomeSpec)

/-- ITS FALSE NEIGHBOUR: 'it returns false'. Refute it at one input. -/
def sieveSomeWrong : ChangeSpec := { name := "sieveSome", fn := fun _ => fun
  | [d1, d2, d3] => { results := [.lit (.bool false)], args := [d1, d2, d3] }
  | _ => none }
def SieveSomeWrongFalsely : Prop := sieveSomeRow.holds Try.pinned (OpenSpec.ofChange sieveSomeWrong)

/-- 'greatseallaw09.SieveNever': WHATEVER THE INPUT: true; the input reads as it did. -/
def sieveNeverSpec : ChangeSpec := { name := "sieveNever", fn := fun _ => fun
  | [d1, d2, d3, d4] => { results := [.lit (.bool true)], args := [d1, d2, d3, d4] }
  | _ => none }
def sieveNeverRow : OpenClaim := { program := "ytpmkinnfbnfmbaa", sum := "cb28f32a5d99d7c7e8dd16934d7edcdedc1815a391b90b8337bc15f85cc44c7b", func := "greatseal/greatseallaw09.SieveNever", spec := "sieveNever", inPlace := ["math/bits.Add64"], unfollowed := true, recurses := true, named := ["math/bits.divideError", "math/bits.overflowError"], apart := false }
def SieveNeverSaid : Prop := sieveNeverRow.holds Try.pinned (OpenSpec.ofChange sieveNeverSpec)

/-- ITS FALSE NEIGHBOUR: 'it returns false'. Refute it at one input. -/
def sieveNeverWrong : ChangeSpec := { name := "sieveNever", fn := fun _ => fun
  | [d1, d2, d3, d4] => { results := [.lit (.bool false)], args := [d1, d2, d3, d4] }
  | _ => none }
def SieveNeverWrongFalsely : Prop := sieveNeverRow.holds Try.pinned (OpenSpec.ofChange sieveNeverWrong)

/-- 'greatseallaw09.SieveOrder': WHATEVER THE INPUT: true; the input reads as it did. -/
def sieveOrderSpec : ChangeSpec := { name := "sieveOrder", fn := fun _ => fun
  | [d1, d2, d3, d4] => { results := [.lit (.bool true)], args := [d1, d2, d3, d4] }
  | _ => none }
def sieveOrderRow : OpenClaim := { program := "ytpmkinnfbnfmbaa", sum := "cb28f32a5d99d7c7e8dd16934d7edcdedc1815a391b90b8337bc15f85cc44c7b", func := "greatseal/greatseallaw09.SieveOrder", spec := "sieveOrder", inPlace := ["math/bits.Add64"], unfollowed := true, recurses := true, named := ["math/bits.divideError", "math/bits.overflowError"], apart := false }
def SieveOrderSaid : Prop := sieveOrderRow.holds Try.pinned (OpenSpec.ofChange sieveOrderSpec)

/-- ITS FALSE NEIGHBOUR: 'it returns false'. Refute it at one input. -/
def sieveOrderWrong : ChangeSpec := { name := "sieveOrder", fn := fun _ => fun
  | [d1, d2, d3, d4] => { results := [.lit (.bool false)], args := [d1, d2, d3, d4] }
  | _ => none }
def SieveOrderWrongFalsely : Prop := sieveOrderRow.holds Try.pinned (OpenSpec.ofChange sieveOrderWrong)

/-- 'greatseallaw09.SieveJoins': WHATEVER THE INPUT: true; the input reads as it did. -/
def sieveJoinsSpec : ChangeSpec := { name := "sieveJoins", fn := fun _ => fun
  | [d1, d2, d3, d4, d5] => { results := [.lit (.bool true)], args := [d1, d2, d3, d4, d5] }
  | _ => none }
def sieveJoinsRow : OpenClaim := { program := "ytpmkinnfbnfmbaa", sum := "cb28f32a5d99d7c7e8dd16934d7edcdedc1815a391b90b8337bc15f85cc44c7b", func := "greatseal/greatseallaw09.SieveJoins", spec := "sieveJoins", inPlace := ["math/bits.Add64"], unfollowed := true, recurses := true, named := ["math/bits.divideError", "math/bits.overflowError"], apart := false }
def SieveJoinsSaid : Prop := sieveJoinsRow.holds Try.pinned (OpenSpec.ofChange sieveJoinsSpec)

/-- ITS FALSE NEIGHBOUR: 'it returns false'. Refute it at one input. -/
def sieveJoinsWrong : ChangeSpec := { name := "sieveJoins", fn := fun _ => fun
  | [d1, d2, d3, d4, d5] => { results := [.lit (.bool false)], args := [d1, d2, d3, d4, d5] }
  | _ => none }
def SieveJoinsWrongFalsely : Prop := sieveJoinsRow.holds Try.pinned (OpenSpec.ofChange sieveJoinsWrong)

/- THE SECOND FORM. 'bulk': how many values and letters a reading holds, each counted each time it is reached (what is shared counts as often as it is met; a slice's spare places count too). A statement '..UptoSaid' is the law's where the arguments, and the package variables that the reading takes, are together of bulk at most 1048576: NARROWER than '..Said'. Prove '..Said' where nothing that the law and all that it calls make is longer than what came in: it says more and counts as full. Else prove '..UptoSaid'. A law counts once. -/
mutual
def uptoBulk {H : Type} : DataW H → Nat
  | .lit (.string bytes) => bytes.length + 1
  | .lit _ => 1
  | .nil => 1
  | .ptr d => uptoBulk d + 1
  | .slice elems spare => uptoBulkAll elems + uptoBulkAll spare + 1
  | .agg parts => uptoBulkAll parts + 1
  | .iface _ d => uptoBulk d + 1
  | .map entries => uptoBulkEntries entries + 1
  | .held _ => 1
def uptoBulkAll {H : Type} : List (DataW H) → Nat
  | [] => 0
  | d :: r => uptoBulk d + uptoBulkAll r
def uptoBulkEntries {H : Type} : List (Lit × DataW H) → Nat
  | [] => 0
  | x :: r => uptoBulkEntry x + uptoBulkEntries r
def uptoBulkEntry {H : Type} : Lit × DataW H → Nat
  | (.string bytes, d) => bytes.length + uptoBulk d + 1
  | (_, d) => uptoBulk d + 1
 end
def uptoSmall : (H : Type) → List (DataW H) → Bool := fun _ ds => decide (uptoBulkAll ds ≤ 1048576)
def OpenSpec.upto (s : _root_.Go.ChangeSpec) : _root_.Go.OpenSpec := { _root_.Go.OpenSpec.ofChange s with cond := some uptoSmall }

/-- 'greatseallaw09.SieveGrows', WHERE WHAT IT READS IS OF BULK AT MOST 1048576: true; the input reads as it did. -/
def sieveGrowsUptoRow : OpenClaim := { program := "ytpmkinnfbnfmbaa", sum := "cb28f32a5d99d7c7e8dd16934d7edcdedc1815a391b90b8337bc15f85cc44c7b", func := "greatseal/greatseallaw09.SieveGrows", spec := "sieveGrows", inPlace := ["math/bits.Add64"], unfollowed := true, recurses := true, named := ["math/bits.divideError", "math/bits.overflowError"], apart := false, narrowed := true }
def SieveGrowsUptoSaid : Prop := sieveGrowsUptoRow.holds Try.pinned (OpenSpec.upto sieveGrowsSpec)

/-- 'greatseallaw09.SieveBare', WHERE WHAT IT READS IS OF BULK AT MOST 1048576: true; the input reads as it did. -/
def sieveBareUptoRow : OpenClaim := { program := "ytpmkinnfbnfmbaa", sum := "cb28f32a5d99d7c7e8dd16934d7edcdedc1815a391b90b8337bc15f85cc44c7b", func := "greatseal/greatseallaw09.SieveBare", spec := "sieveBare", inPlace := ["math/bits.Add64"], unfollowed := true, recurses := true, named := ["math/bits.divideError", "math/bits.overflowError"], apart := false, narrowed := true }
def SieveBareUptoSaid : Prop := sieveBareUptoRow.holds Try.pinned (OpenSpec.upto sieveBareSpec)

/-- 'greatseallaw09.SieveSome', WHERE WHAT IT READS IS OF BULK AT MOST 1048576: true; the input reads as it did. -/
def sieveSomeUptoRow : OpenClaim := { program := "ytpmkinnfbnfmbaa", sum := "cb28f32a5d99d7c7e8dd16934d7edcdedc1815a391b90b8337bc15f85cc44c7b", func := "greatseal/greatseallaw09.SieveSome", spec := "sieveSome", inPlace := ["math/bits.Add64"], unfollowed := true, recurses := true, named := ["math/bits.divideError", "math/bits.overflowError"], apart := false, narrowed := true }
def SieveSomeUptoSaid : Prop := sieveSomeUptoRow.holds Try.pinned (OpenSpec.upto sieveSomeSpec)

/-- 'greatseallaw09.SieveNever', WHERE WHAT IT READS IS OF BULK AT MOST 1048576: true; the input reads as it did. -/
def sieveNeverUptoRow : OpenClaim := { program := "ytpmkinnfbnfmbaa", sum := "cb28f32a5d99d7c7e8dd16934d7edcdedc1815a391b90b8337bc15f85cc44c7b", func := "greatseal/greatseallaw09.SieveNever", spec := "sieveNever", inPlace := ["math/bits.Add64"], unfollowed := true, recurses := true, named := ["math/bits.divideError", "math/bits.overflowError"], apart := false, narrowed := true }
def SieveNeverUptoSaid : Prop := sieveNeverUptoRow.holds Try.pinned (OpenSpec.upto sieveNeverSpec)

/-- 'greatseallaw09.SieveOrder', WHERE WHAT IT READS IS OF BULK AT MOST 1048576: true; the input reads as it did. -/
def sieveOrderUptoRow : OpenClaim := { program := "ytpmkinnfbnfmbaa", sum := "cb28f32a5d99d7c7e8dd16934d7edcdedc1815a391b90b8337bc15f85cc44c7b", func := "greatseal/greatseallaw09.SieveOrder", spec := "sieveOrder", inPlace := ["math/bits.Add64"], unfollowed := true, recurses := true, named := ["math/bits.divideError", "math/bits.overflowError"], apart := false, narrowed := true }
def SieveOrderUptoSaid : Prop := sieveOrderUptoRow.holds Try.pinned (OpenSpec.upto sieveOrderSpec)

/-- 'greatseallaw09.SieveJoins', WHERE WHAT IT READS IS OF BULK AT MOST 1048576: true; the input reads as it did. -/
def sieveJoinsUptoRow : OpenClaim := { program := "ytpmkinnfbnfmbaa", sum := "cb28f32a5d99d7c7e8dd16934d7edcdedc1815a391b90b8337bc15f85cc44c7b", func := "greatseal/greatseallaw09.SieveJoins", spec := "sieveJoins", inPlace := ["math/bits.Add64"], unfollowed := true, recurses := true, named := ["math/bits.divideError", "math/bits.overflowError"], apart := false, narrowed := true }
def SieveJoinsUptoSaid : Prop := sieveJoinsUptoRow.holds Try.pinned (OpenSpec.upto sieveJoinsSpec)

end Rows
end Go.Proofs.Ytpmkinnfbnfmbaa
