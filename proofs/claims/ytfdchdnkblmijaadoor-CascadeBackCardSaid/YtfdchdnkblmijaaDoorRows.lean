/-
  NARROWER THAN 'FOR EVERY INPUT', by the rows' own cells (each row's printed sentence says how): CascadeRight: laid · CascadeFails: laid · CascadeLevels: laid · CascadeBack: laid · CascadeLeads: laid.
  DERIVED. THE GIVEN ROWS OF THIS SEAT. 5 by the template 'for every input the law returns true; each argument reads behind the call as it read before'; 0 by the template 'total and deterministic' (their statements: YtfdchdnkblmijaaDoorTotals.lean).
  GIVEN WITH THE SEED: the statements are not yours to turn. If you find one false, say at which input.
  Laid BY PROGRAM, IN A SANDBOX (cutbox-rows.mjs): the forced cells as the released guide's own fill.sh prints them over the translation 3e7030d7efde9eb4… (all of the seat's roots in one cut). By AI agents, Wed Nov 11 2026. No macro, syntax, notation, axiom, sorry.
-/
import Derived.Test.YtfdchdnkblmijaaDoorChecked
import GoSem.Claim
import GoSem.ClaimJoined
import GoSem.ClaimMapViews
import Derived.JoinedTies
import Derived.KernelRfl
namespace Go.Proofs.YtfdchdnkblmijaaDoor
/- THE CELL 'sum', in the pinned program and in every row, IS THE sha256 OF THE DUMP (.gsa) THAT YtfdchdnkblmijaaDoorProg.lean LOADS. Nothing in Lean hashes anything: it is a label: what it is worth is what the hold of that sum in a sandbox is worth. -/
noncomputable def Tryd.pinned : Pinned := { name := "ytfdchdnkblmijaadoor", sum := "3e7030d7efde9eb42b14752708b16a6122e9d3e8aafec7154ba5c2c841813409", checked := Tryd.checked }
namespace Rows
def none {H : Type} : Left H := { results := [], args := [] }

/- WHAT THE LISTED PACKAGE-LEVEL VARIABLES READ AS WHEN THE CALL BEGINS. Each datum BY PROGRAM (the guide's laid-datum.mjs) off the statement by which the dump's own 'gosem.cut.vars' lays the variable. In a bare row this is a premise. The card (YtfdchdnkblmijaaDoorCards.lean) ties it to the program's text. -/
def laid_greatseal_der_kinds {H : Type} : DataW H := .iface "func table" (.agg [.agg [.lit (.int .i64 1), .iface "func" (.lit (.string [103, 114, 101, 97, 116, 115, 101, 97, 108, 47, 100, 101, 114, 46, 107, 105, 110, 100, 115, 36, 49]))], .agg [.lit (.int .i64 2), .iface "func" (.lit (.string [103, 114, 101, 97, 116, 115, 101, 97, 108, 47, 100, 101, 114, 46, 108, 101, 97, 115, 116]))], .agg [.lit (.int .i64 4), .iface "func" (.lit (.string [103, 114, 101, 97, 116, 115, 101, 97, 108, 47, 100, 101, 114, 46, 107, 105, 110, 100, 115, 36, 50]))], .agg [.lit (.int .i64 12), .iface "func" (.lit (.string [103, 114, 101, 97, 116, 115, 101, 97, 108, 47, 100, 101, 114, 46, 107, 105, 110, 100, 115, 36, 51]))], .agg [.lit (.int .i64 48), .iface "func" (.lit (.string [103, 114, 101, 97, 116, 115, 101, 97, 108, 47, 100, 101, 114, 46, 107, 105, 110, 100, 115, 36, 52]))]])

/-- 'greatseallaw10.CascadeRight': WHATEVER THE INPUT: true; the input reads as it did. -/
def cascadeRightSpec : ChangeSpec := { name := "cascadeRight", fn := fun _ => fun
  | [d1, d2, d3] => { results := [.lit (.bool true)], args := [d1, d2, d3] }
  | _ => none }
def cascadeRightRow : OpenClaim := { program := "ytfdchdnkblmijaadoor", sum := "3e7030d7efde9eb42b14752708b16a6122e9d3e8aafec7154ba5c2c841813409", func := "greatseal/greatseallaw10.CascadeRight", spec := "cascadeRight", inPlace := ["math/bits.Add64"], unfollowed := true, recurses := true, named := ["math/bits.divideError", "math/bits.overflowError", "greatseal/der.kinds"], apart := false, laid := [("greatseal/der.kinds", laid_greatseal_der_kinds)] }
def CascadeRightSaid : Prop := cascadeRightRow.holds Tryd.pinned (OpenSpec.ofChange cascadeRightSpec)

/-- ITS FALSE NEIGHBOUR: 'it returns false'. Refute it at one input. -/
def cascadeRightWrong : ChangeSpec := { name := "cascadeRight", fn := fun _ => fun
  | [d1, d2, d3] => { results := [.lit (.bool false)], args := [d1, d2, d3] }
  | _ => none }
def CascadeRightWrongFalsely : Prop := cascadeRightRow.holds Tryd.pinned (OpenSpec.ofChange cascadeRightWrong)

/-- 'greatseallaw10.CascadeFails': WHATEVER THE INPUT: true; the input reads as it did. -/
def cascadeFailsSpec : ChangeSpec := { name := "cascadeFails", fn := fun _ => fun
  | [d1, d2, d3] => { results := [.lit (.bool true)], args := [d1, d2, d3] }
  | _ => none }
def cascadeFailsRow : OpenClaim := { program := "ytfdchdnkblmijaadoor", sum := "3e7030d7efde9eb42b14752708b16a6122e9d3e8aafec7154ba5c2c841813409", func := "greatseal/greatseallaw10.CascadeFails", spec := "cascadeFails", inPlace := ["math/bits.Add64"], unfollowed := true, recurses := true, named := ["math/bits.divideError", "math/bits.overflowError", "greatseal/der.kinds"], apart := false, laid := [("greatseal/der.kinds", laid_greatseal_der_kinds)] }
def CascadeFailsSaid : Prop := cascadeFailsRow.holds Tryd.pinned (OpenSpec.ofChange cascadeFailsSpec)

/-- ITS FALSE NEIGHBOUR: 'it returns false'. Refute it at one input. -/
def cascadeFailsWrong : ChangeSpec := { name := "cascadeFails", fn := fun _ => fun
  | [d1, d2, d3] => { results := [.lit (.bool false)], args := [d1, d2, d3] }
  | _ => none }
def CascadeFailsWrongFalsely : Prop := cascadeFailsRow.holds Tryd.pinned (OpenSpec.ofChange cascadeFailsWrong)

/-- 'greatseallaw10.CascadeLevels': WHATEVER THE INPUT: true; the input reads as it did. -/
def cascadeLevelsSpec : ChangeSpec := { name := "cascadeLevels", fn := fun _ => fun
  | [d1, d2, d3, d4] => { results := [.lit (.bool true)], args := [d1, d2, d3, d4] }
  | _ => none }
def cascadeLevelsRow : OpenClaim := { program := "ytfdchdnkblmijaadoor", sum := "3e7030d7efde9eb42b14752708b16a6122e9d3e8aafec7154ba5c2c841813409", func := "greatseal/greatseallaw10.CascadeLevels", spec := "cascadeLevels", inPlace := ["math/bits.Add64"], unfollowed := true, recurses := true, named := ["math/bits.divideError", "math/bits.overflowError", "greatseal/der.kinds"], apart := false, laid := [("greatseal/der.kinds", laid_greatseal_der_kinds)] }
def CascadeLevelsSaid : Prop := cascadeLevelsRow.holds Tryd.pinned (OpenSpec.ofChange cascadeLevelsSpec)

/-- ITS FALSE NEIGHBOUR: 'it returns false'. Refute it at one input. -/
def cascadeLevelsWrong : ChangeSpec := { name := "cascadeLevels", fn := fun _ => fun
  | [d1, d2, d3, d4] => { results := [.lit (.bool false)], args := [d1, d2, d3, d4] }
  | _ => none }
def CascadeLevelsWrongFalsely : Prop := cascadeLevelsRow.holds Tryd.pinned (OpenSpec.ofChange cascadeLevelsWrong)

/-- 'greatseallaw10.CascadeBack': WHATEVER THE INPUT: true; the input reads as it did. -/
def cascadeBackSpec : ChangeSpec := { name := "cascadeBack", fn := fun _ => fun
  | [d1, d2] => { results := [.lit (.bool true)], args := [d1, d2] }
  | _ => none }
def cascadeBackRow : OpenClaim := { program := "ytfdchdnkblmijaadoor", sum := "3e7030d7efde9eb42b14752708b16a6122e9d3e8aafec7154ba5c2c841813409", func := "greatseal/greatseallaw10.CascadeBack", spec := "cascadeBack", inPlace := ["math/bits.Add64"], unfollowed := true, recurses := true, named := ["math/bits.divideError", "math/bits.overflowError", "greatseal/der.kinds"], apart := false, laid := [("greatseal/der.kinds", laid_greatseal_der_kinds)] }
def CascadeBackSaid : Prop := cascadeBackRow.holds Tryd.pinned (OpenSpec.ofChange cascadeBackSpec)

/-- ITS FALSE NEIGHBOUR: 'it returns false'. Refute it at one input. -/
def cascadeBackWrong : ChangeSpec := { name := "cascadeBack", fn := fun _ => fun
  | [d1, d2] => { results := [.lit (.bool false)], args := [d1, d2] }
  | _ => none }
def CascadeBackWrongFalsely : Prop := cascadeBackRow.holds Tryd.pinned (OpenSpec.ofChange cascadeBackWrong)

/-- 'greatseallaw10.CascadeLeads': WHATEVER THE INPUT: true; the input reads as it did. -/
def cascadeLeadsSpec : ChangeSpec := { name := "cascadeLeads", fn := fun _ => fun
  | [d1, d2, d3] => { results := [.lit (.bool true)], args := [d1, d2, d3] }
  | _ => none }
def cascadeLeadsRow : OpenClaim := { program := "ytfdchdnkblmijaadoor", sum := "3e7030d7efde9eb42b14752708b16a6122e9d3e8aafec7154ba5c2c841813409", func := "greatseal/greatseallaw10.CascadeLeads", spec := "cascadeLeads", inPlace := ["math/bits.Add64"], unfollowed := true, recurses := true, named := ["math/bits.divideError", "math/bits.overflowError", "greatseal/der.kinds"], apart := false, laid := [("greatseal/der.kinds", laid_greatseal_der_kinds)] }
def CascadeLeadsSaid : Prop := cascadeLeadsRow.holds Tryd.pinned (OpenSpec.ofChange cascadeLeadsSpec)

/-- ITS FALSE NEIGHBOUR: 'it returns false'. Refute it at one input. -/
def cascadeLeadsWrong : ChangeSpec := { name := "cascadeLeads", fn := fun _ => fun
  | [d1, d2, d3] => { results := [.lit (.bool false)], args := [d1, d2, d3] }
  | _ => none }
def CascadeLeadsWrongFalsely : Prop := cascadeLeadsRow.holds Tryd.pinned (OpenSpec.ofChange cascadeLeadsWrong)

/- THE SECOND FORM. 'bulk': how many values and letters a reading holds, each counted each time it is reached (what is shared counts as often as it is met; a slice's spare places count too). A statement '..UptoSaid' is the law's where the arguments, and the package variables that the reading takes, are together of bulk at most 1048576: NARROWER than '..Said'. Prove '..Said' where nothing that the law and all that it calls make is longer than what came in: it says more and counts as full. Else prove '..UptoSaid'. A law counts once. -/
mutual
def uptoBulk {H : Type} : DataW H → Nat
  | .lit (.string bytes) => bytes.length + 1
  | .lit _ => 1
  | .nil => 1
  | .ptr d => uptoBulk d + 1
  | .slice elems spare => uptoBulkAll elems + uptoBulkAll spare + 1
  | .agg parts => uptoBulkAll parts + 1
  | .iface _ d => uptoBulk d + 1
  | .map entries => uptoBulkEntries entries + 1
  | .held _ => 1
def uptoBulkAll {H : Type} : List (DataW H) → Nat
  | [] => 0
  | d :: r => uptoBulk d + uptoBulkAll r
def uptoBulkEntries {H : Type} : List (Lit × DataW H) → Nat
  | [] => 0
  | x :: r => uptoBulkEntry x + uptoBulkEntries r
def uptoBulkEntry {H : Type} : Lit × DataW H → Nat
  | (.string bytes, d) => bytes.length + uptoBulk d + 1
  | (_, d) => uptoBulk d + 1
 end
def uptoSmall : (H : Type) → List (DataW H) → Bool := fun _ ds => decide (uptoBulkAll ds ≤ 1048576)
def OpenSpec.upto (s : _root_.Go.ChangeSpec) : _root_.Go.OpenSpec := { _root_.Go.OpenSpec.ofChange s with cond := some uptoSmall }

/-- 'greatseallaw10.CascadeRight', WHERE WHAT IT READS IS OF BULK AT MOST 1048576: true; the input reads as it did. -/
def cascadeRightUptoRow : OpenClaim := { program := "ytfdchdnkblmijaadoor", sum := "3e7030d7efde9eb42b14752708b16a6122e9d3e8aafec7154ba5c2c841813409", func := "greatseal/greatseallaw10.CascadeRight", spec := "cascadeRight", inPlace := ["math/bits.Add64"], unfollowed := true, recurses := true, named := ["math/bits.divideError", "math/bits.overflowError", "greatseal/der.kinds"], apart := false, laid := [("greatseal/der.kinds", laid_greatseal_der_kinds)], narrowed := true }
def CascadeRightUptoSaid : Prop := cascadeRightUptoRow.holds Tryd.pinned (OpenSpec.upto cascadeRightSpec)

/-- 'greatseallaw10.CascadeFails', WHERE WHAT IT READS IS OF BULK AT MOST 1048576: true; the input reads as it did. -/
def cascadeFailsUptoRow : OpenClaim := { program := "ytfdchdnkblmijaadoor", sum := "3e7030d7efde9eb42b14752708b16a6122e9d3e8aafec7154ba5c2c841813409", func := "greatseal/greatseallaw10.CascadeFails", spec := "cascadeFails", inPlace := ["math/bits.Add64"], unfollowed := true, recurses := true, named := ["math/bits.divideError", "math/bits.overflowError", "greatseal/der.kinds"], apart := false, laid := [("greatseal/der.kinds", laid_greatseal_der_kinds)], narrowed := true }
def CascadeFailsUptoSaid : Prop := cascadeFailsUptoRow.holds Tryd.pinned (OpenSpec.upto cascadeFailsSpec)

/-- 'greatseallaw10.CascadeLevels', WHERE WHAT IT READS IS OF BULK AT MOST 1048576: true; the input reads as it did. -/
def cascadeLevelsUptoRow : OpenClaim := { program := "ytfdchdnkblmijaadoor", sum := "3e7030d7efde9eb42b14752708b16a6122e9d3e8aafec7154ba5c2c841813409", func := "greatseal/greatseallaw10.CascadeLevels", spec := "cascadeLevels", inPlace := ["math/bits.Add64"], unfollowed := true, recurses := true, named := ["math/bits.divideError", "math/bits.overflowError", "greatseal/der.kinds"], apart := false, laid := [("greatseal/der.kinds", laid_greatseal_der_kinds)], narrowed := true }
def CascadeLevelsUptoSaid : Prop := cascadeLevelsUptoRow.holds Tryd.pinned (OpenSpec.upto cascadeLevelsSpec)

/-- 'greatseallaw10.CascadeBack', WHERE WHAT IT READS IS OF BULK AT MOST 1048576: true; the input reads as it did. -/
def cascadeBackUptoRow : OpenClaim := { program := "ytfdchdnkblmijaadoor", sum := "3e7030d7efde9eb42b14752708b16a6122e9d3e8aafec7154ba5c2c841813409", func := "greatseal/greatseallaw10.CascadeBack", spec := "cascadeBack", inPlace := ["math/bits.Add64"], unfollowed := true, recurses := true, named := ["math/bits.divideError", "math/bits.overflowError", "greatseal/der.kinds"], apart := false, laid := [("greatseal/der.kinds", laid_greatseal_der_kinds)], narrowed := true }
def CascadeBackUptoSaid : Prop := cascadeBackUptoRow.holds Tryd.pinned (OpenSpec.upto cascadeBackSpec)

/-- 'greatseallaw10.CascadeLeads', WHERE WHAT IT READS IS OF BULK AT MOST 1048576: true; the input reads as it did. -/
def cascadeLeadsUptoRow : OpenClaim := { program := "ytfdchdnkblmijaadoor", sum := "3e7030d7efde9eb42b14752708b16a6122e9d3e8aafec7154ba5c2c841813409", func := "greatseal/greatseallaw10.CascadeLeads", spec := "cascadeLeads", inPlace := ["math/bits.Add64"], unfollowed := true, recurses := true, named := ["math/bits.divideError", "math/bits.overflowError", "greatseal/der.kinds"], apart := false, laid := [("greatseal/der.kinds", laid_greatseal_der_kinds)], narrowed := true }
def CascadeLeadsUptoSaid : Prop := cascadeLeadsUptoRow.holds Tryd.pinned (OpenSpec.upto cascadeLeadsSpec)

end Rows
end Go.Proofs.YtfdchdnkblmijaaDoor
