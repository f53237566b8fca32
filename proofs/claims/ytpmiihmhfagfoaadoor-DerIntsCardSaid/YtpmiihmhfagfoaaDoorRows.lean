/-
  NARROWER THAN 'FOR EVERY INPUT', by the rows' own cells (each row's printed sentence says how): DerPuts: loops, laid · DerGets: laid · DerBack: loops, laid · DerOnly: laid · DerShort: loops, laid · DerInts: laid · DerSeqs: loops, laid · DerTells: loops, laid · DerMakes: loops, laid.
  DERIVED. THE GIVEN ROWS OF THIS SEAT. 9 by the template 'for every input the law returns true; each argument reads behind the call as it read before'; 0 by the template 'total and deterministic' (their statements: YtpmiihmhfagfoaaDoorTotals.lean).
  GIVEN WITH THE SEED: the statements are not yours to turn. If you find one false, say at which input.
  Laid BY PROGRAM, IN A SANDBOX (cutbox-rows.mjs): the forced cells as the released guide's own fill.sh prints them over the translation bd4102b084515260… (all of the seat's roots in one cut). By AI agents, Wed Nov 11 2026. No macro, syntax, notation, axiom, sorry.
-/
import Derived.Test.YtpmiihmhfagfoaaDoorChecked
import GoSem.Claim
import GoSem.ClaimJoined
import GoSem.ClaimMapViews
import Derived.JoinedTies
import Derived.KernelRfl
namespace Go.Proofs.YtpmiihmhfagfoaaDoor
/- THE CELL 'sum', in the pinned program and in every row, IS THE sha256 OF THE DUMP (.gsa) THAT YtpmiihmhfagfoaaDoorProg.lean LOADS. Nothing in Lean hashes anything: it is a label: what it is worth is what the hold of that sum in a sandbox is worth. -/
noncomputable def Tryd.pinned : Pinned := { name := "ytpmiihmhfagfoaadoor", sum := "bd4102b08451526058aa8edb65e536f08672cda0d8cfc9c80e04c5631e5fcf09", checked := Tryd.checked }
namespace Rows
def none {H : Type} : Left H := { results := [], args := [] }

/- WHAT THE LISTED PACKAGE-LEVEL VARIABLES READ AS WHEN THE CALL BEGINS. Each datum BY PROGRAM (the guide's laid-datum.mjs) off the statement by which the dump's own 'gosem.cut.vars' lays the variable. In a bare row this is a premise. The card (YtpmiihmhfagfoaaDoorCards.lean) ties it to the program's text. -/
def laid_greatseal_der_kinds {H : Type} : DataW H := .iface "func table" (.agg [.agg [.lit (.int .i64 1), .iface "func" (.lit (.string [103, 114, 101, 97, 116, 115, 101, 97, 108, 47, 100, 101, 114, 46, 107, 105, 110, 100, 115, 36, 49]))], .agg [.lit (.int .i64 2), .iface "func" (.lit (.string [103, 114, 101, 97, 116, 115, 101, 97, 108, 47, 100, 101, 114, 46, 108, 101, 97, 115, 116]))], .agg [.lit (.int .i64 4), .iface "func" (.lit (.string [103, 114, 101, 97, 116, 115, 101, 97, 108, 47, 100, 101, 114, 46, 107, 105, 110, 100, 115, 36, 50]))], .agg [.lit (.int .i64 12), .iface "func" (.lit (.string [103, 114, 101, 97, 116, 115, 101, 97, 108, 47, 100, 101, 114, 46, 107, 105, 110, 100, 115, 36, 51]))], .agg [.lit (.int .i64 48), .iface "func" (.lit (.string [103, 114, 101, 97, 116, 115, 101, 97, 108, 47, 100, 101, 114, 46, 107, 105, 110, 100, 115, 36, 52]))]])

/-- 'greatseallaw07.DerPuts': WHATEVER THE INPUT: true; the input reads as it did. -/
def derPutsSpec : ChangeSpec := { name := "derPuts", fn := fun _ => fun
  | [d] => { results := [.lit (.bool true)], args := [d] }
  | _ => none }
def derPutsRow : OpenClaim := { program := "ytpmiihmhfagfoaadoor", sum := "bd4102b08451526058aa8edb65e536f08672cda0d8cfc9c80e04c5631e5fcf09", func := "greatseal/greatseallaw07.DerPuts", spec := "derPuts", unfollowed := true, recurses := true, named := ["greatseal/der.kinds"], loops := true, apart := false, laid := [("greatseal/der.kinds", laid_greatseal_der_kinds)] }
def DerPutsSaid : Prop := derPutsRow.holds Tryd.pinned (OpenSpec.ofChange derPutsSpec)

/-- ITS FALSE NEIGHBOUR: 'it returns false'. Refute it at one input. -/
def derPutsWrong : ChangeSpec := { name := "derPuts", fn := fun _ => fun
  | [d] => { results := [.lit (.bool false)], args := [d] }
  | _ => none }
def DerPutsWrongFalsely : Prop := derPutsRow.holds Tryd.pinned (OpenSpec.ofChange derPutsWrong)

/-- 'greatseallaw07.DerGets': WHATEVER THE INPUT: true; the input reads as it did. -/
def derGetsSpec : ChangeSpec := { name := "derGets", fn := fun _ => fun
  | [d1, d2] => { results := [.lit (.bool true)], args := [d1, d2] }
  | _ => none }
def derGetsRow : OpenClaim := { program := "ytpmiihmhfagfoaadoor", sum := "bd4102b08451526058aa8edb65e536f08672cda0d8cfc9c80e04c5631e5fcf09", func := "greatseal/greatseallaw07.DerGets", spec := "derGets", unfollowed := true, recurses := true, named := ["greatseal/der.kinds"], apart := false, laid := [("greatseal/der.kinds", laid_greatseal_der_kinds)] }
def DerGetsSaid : Prop := derGetsRow.holds Tryd.pinned (OpenSpec.ofChange derGetsSpec)

/-- ITS FALSE NEIGHBOUR: 'it returns false'. Refute it at one input. -/
def derGetsWrong : ChangeSpec := { name := "derGets", fn := fun _ => fun
  | [d1, d2] => { results := [.lit (.bool false)], args := [d1, d2] }
  | _ => none }
def DerGetsWrongFalsely : Prop := derGetsRow.holds Tryd.pinned (OpenSpec.ofChange derGetsWrong)

/-- 'greatseallaw07.DerBack': WHATEVER THE INPUT: true; the input reads as it did. -/
def derBackSpec : ChangeSpec := { name := "derBack", fn := fun _ => fun
  | [d1, d2, d3] => { results := [.lit (.bool true)], args := [d1, d2, d3] }
  | _ => none }
def derBackRow : OpenClaim := { program := "ytpmiihmhfagfoaadoor", sum := "bd4102b08451526058aa8edb65e536f08672cda0d8cfc9c80e04c5631e5fcf09", func := "greatseal/greatseallaw07.DerBack", spec := "derBack", unfollowed := true, recurses := true, named := ["greatseal/der.kinds"], loops := true, apart := false, laid := [("greatseal/der.kinds", laid_greatseal_der_kinds)] }
def DerBackSaid : Prop := derBackRow.holds Tryd.pinned (OpenSpec.ofChange derBackSpec)

/-- ITS FALSE NEIGHBOUR: 'it returns false'. Refute it at one input. -/
def derBackWrong : ChangeSpec := { name := "derBack", fn := fun _ => fun
  | [d1, d2, d3] => { results := [.lit (.bool false)], args := [d1, d2, d3] }
  | _ => none }
def DerBackWrongFalsely : Prop := derBackRow.holds Tryd.pinned (OpenSpec.ofChange derBackWrong)

/-- 'greatseallaw07.DerOnly': WHATEVER THE INPUT: true; the input reads as it did. -/
def derOnlySpec : ChangeSpec := { name := "derOnly", fn := fun _ => fun
  | [d1, d2] => { results := [.lit (.bool true)], args := [d1, d2] }
  | _ => none }
def derOnlyRow : OpenClaim := { program := "ytpmiihmhfagfoaadoor", sum := "bd4102b08451526058aa8edb65e536f08672cda0d8cfc9c80e04c5631e5fcf09", func := "greatseal/greatseallaw07.DerOnly", spec := "derOnly", unfollowed := true, recurses := true, named := ["greatseal/der.kinds"], apart := false, laid := [("greatseal/der.kinds", laid_greatseal_der_kinds)] }
def DerOnlySaid : Prop := derOnlyRow.holds Tryd.pinned (OpenSpec.ofChange derOnlySpec)

/-- ITS FALSE NEIGHBOUR: 'it returns false'. Refute it at one input. -/
def derOnlyWrong : ChangeSpec := { name := "derOnly", fn := fun _ => fun
  | [d1, d2] => { results := [.lit (.bool false)], args := [d1, d2] }
  | _ => none }
def DerOnlyWrongFalsely : Prop := derOnlyRow.holds Tryd.pinned (OpenSpec.ofChange derOnlyWrong)

/-- 'greatseallaw07.DerShort': WHATEVER THE INPUT: true; the input reads as it did. -/
def derShortSpec : ChangeSpec := { name := "derShort", fn := fun _ => fun
  | [d1, d2] => { results := [.lit (.bool true)], args := [d1, d2] }
  | _ => none }
def derShortRow : OpenClaim := { program := "ytpmiihmhfagfoaadoor", sum := "bd4102b08451526058aa8edb65e536f08672cda0d8cfc9c80e04c5631e5fcf09", func := "greatseal/greatseallaw07.DerShort", spec := "derShort", unfollowed := true, recurses := true, named := ["greatseal/der.kinds"], loops := true, apart := false, laid := [("greatseal/der.kinds", laid_greatseal_der_kinds)] }
def DerShortSaid : Prop := derShortRow.holds Tryd.pinned (OpenSpec.ofChange derShortSpec)

/-- ITS FALSE NEIGHBOUR: 'it returns false'. Refute it at one input. -/
def derShortWrong : ChangeSpec := { name := "derShort", fn := fun _ => fun
  | [d1, d2] => { results := [.lit (.bool false)], args := [d1, d2] }
  | _ => none }
def DerShortWrongFalsely : Prop := derShortRow.holds Tryd.pinned (OpenSpec.ofChange derShortWrong)

/-- 'greatseallaw07.DerInts': WHATEVER THE INPUT: true; the input reads as it did. -/
def derIntsSpec : ChangeSpec := { name := "derInts", fn := fun _ => fun
  | [d1, d2, d3] => { results := [.lit (.bool true)], args := [d1, d2, d3] }
  | _ => none }
def derIntsRow : OpenClaim := { program := "ytpmiihmhfagfoaadoor", sum := "bd4102b08451526058aa8edb65e536f08672cda0d8cfc9c80e04c5631e5fcf09", func := "greatseal/greatseallaw07.DerInts", spec := "derInts", unfollowed := true, recurses := true, named := ["greatseal/der.kinds"], apart := false, laid := [("greatseal/der.kinds", laid_greatseal_der_kinds)] }
def DerIntsSaid : Prop := derIntsRow.holds Tryd.pinned (OpenSpec.ofChange derIntsSpec)

/-- ITS FALSE NEIGHBOUR: 'it returns false'. Refute it at one input. -/
def derIntsWrong : ChangeSpec := { name := "derInts", fn := fun _ => fun
  | [d1, d2, d3] => { results := [.lit (.bool false)], args := [d1, d2, d3] }
  | _ => none }
def DerIntsWrongFalsely : Prop := derIntsRow.holds Tryd.pinned (OpenSpec.ofChange derIntsWrong)

/-- 'greatseallaw07.DerSeqs': WHATEVER THE INPUT: true; the input reads as it did. -/
def derSeqsSpec : ChangeSpec := { name := "derSeqs", fn := fun _ => fun
  | [d] => { results := [.lit (.bool true)], args := [d] }
  | _ => none }
def derSeqsRow : OpenClaim := { program := "ytpmiihmhfagfoaadoor", sum := "bd4102b08451526058aa8edb65e536f08672cda0d8cfc9c80e04c5631e5fcf09", func := "greatseal/greatseallaw07.DerSeqs", spec := "derSeqs", unfollowed := true, recurses := true, named := ["greatseal/der.kinds"], loops := true, apart := false, laid := [("greatseal/der.kinds", laid_greatseal_der_kinds)] }
def DerSeqsSaid : Prop := derSeqsRow.holds Tryd.pinned (OpenSpec.ofChange derSeqsSpec)

/-- ITS FALSE NEIGHBOUR: 'it returns false'. Refute it at one input. -/
def derSeqsWrong : ChangeSpec := { name := "derSeqs", fn := fun _ => fun
  | [d] => { results := [.lit (.bool false)], args := [d] }
  | _ => none }
def DerSeqsWrongFalsely : Prop := derSeqsRow.holds Tryd.pinned (OpenSpec.ofChange derSeqsWrong)

/-- 'greatseallaw07.DerTells': WHATEVER THE INPUT: true; the input reads as it did. -/
def derTellsSpec : ChangeSpec := { name := "derTells", fn := fun _ => fun
  | [d] => { results := [.lit (.bool true)], args := [d] }
  | _ => none }
def derTellsRow : OpenClaim := { program := "ytpmiihmhfagfoaadoor", sum := "bd4102b08451526058aa8edb65e536f08672cda0d8cfc9c80e04c5631e5fcf09", func := "greatseal/greatseallaw07.DerTells", spec := "derTells", unfollowed := true, recurses := true, named := ["greatseal/der.kinds"], loops := true, apart := false, laid := [("greatseal/der.kinds", laid_greatseal_der_kinds)] }
def DerTellsSaid : Prop := derTellsRow.holds Tryd.pinned (OpenSpec.ofChange derTellsSpec)

/-- ITS FALSE NEIGHBOUR: 'it returns false'. Refute it at one input. -/
def derTellsWrong : ChangeSpec := { name := "derTells", fn := fun _ => fun
  | [d] => { results := [.lit (.bool false)], args := [d] }
  | _ => none }
def DerTellsWrongFalsely : Prop := derTellsRow.holds Tryd.pinned (OpenSpec.ofChange derTellsWrong)

/-- 'greatseallaw07.DerMakes': WHATEVER THE INPUT: true; the input reads as it did. -/
def derMakesSpec : ChangeSpec := { name := "derMakes", fn := fun _ => fun
  | [d1, d2, d3, d4, d5] => { results := [.lit (.bool true)], args := [d1, d2, d3, d4, d5] }
  | _ => none }
def derMakesRow : OpenClaim := { program := "ytpmiihmhfagfoaadoor", sum := "bd4102b08451526058aa8edb65e536f08672cda0d8cfc9c80e04c5631e5fcf09", func := "greatseal/greatseallaw07.DerMakes", spec := "derMakes", unfollowed := true, recurses := true, named := ["greatseal/der.kinds"], loops := true, apart := false, laid := [("greatseal/der.kinds", laid_greatseal_der_kinds)] }
def DerMakesSaid : Prop := derMakesRow.holds Tryd.pinned (OpenSpec.ofChange derMakesSpec)

/-- ITS FALSE NEIGHBOUR: 'it returns false'. Refute it at one input. -/
def derMakesWrong : ChangeSpec := { name := "derMakes", fn := fun _ => fun
  | [d1, d2, d3, d4, d5] => { results := [.lit (.bool false)], args := [d1, d2, d3, d4, d5] }
  | _ => none }
def DerMakesWrongFalsely : Prop := derMakesRow.holds Tryd.pinned (OpenSpec.ofChange derMakesWrong)

/- THE SECOND FORM. 'bulk': how many values and letters a reading holds, each counted each time it is reached (what is shared counts as often as it is met; a slice's spare places count too). A statement '..UptoSaid' is the law's where the arguments, and the package variables that the reading takes, are together of bulk at most 1048576: NARROWER than '..Said'. Prove '..Said' where nothing that the law and all that it calls make is longer than what came in: it says more and counts as full. Else prove '..UptoSaid'. A law counts once. -/
mutual
def uptoBulk {H : Type} : DataW H → Nat
  | .lit (.string bytes) => bytes.length + 1
  | .lit _ => 1
  | .nil => 1
  | .ptr d => uptoBulk d + 1
  | .slice elems spare => uptoBulkAll elems + uptoBulkAll spare + 1
  | .agg parts => uptoBulkAll parts + 1
  | .iface _ d => uptoBulk d + 1
  | .map entries => uptoBulkEntries entries + 1
  | .held _ => 1
def uptoBulkAll {H : Type} : List (DataW H) → Nat
  | [] => 0
  | d :: r => uptoBulk d + uptoBulkAll r
def uptoBulkEntries {H : Type} : List (Lit × DataW H) → Nat
  | [] => 0
  | x :: r => uptoBulkEntry x + uptoBulkEntries r
def uptoBulkEntry {H : Type} : Lit × DataW H → Nat
  | (.string bytes, d) => bytes.length + uptoBulk d + 1
  | (_, d) => uptoBulk d + 1
 end
def uptoSmall : (H : Type) → List (DataW H) → Bool := fun _ ds => decide (uptoBulkAll ds ≤ 1048576)
def OpenSpec.upto (s : _root_.Go.ChangeSpec) : _root_.Go.OpenSpec := { _root_.Go.OpenSpec.ofChange s with cond := some uptoSmall }

/-- 'greatseallaw07.DerPuts', WHERE WHAT IT READS IS OF BULK AT MOST 1048576: true; the input reads as it did. -/
def derPutsUptoRow : OpenClaim := { program := "ytpmiihmhfagfoaadoor", sum := "bd4102b08451526058aa8edb65e536f08672cda0d8cfc9c80e04c5631e5fcf09", func := "greatseal/greatseallaw07.DerPuts", spec := "derPuts", unfollowed := true, recurses := true, named := ["greatseal/der.kinds"], loops := true, apart := false, laid := [("greatseal/der.kinds", laid_greatseal_der_kinds)], narrowed := true }
def DerPutsUptoSaid : Prop := derPutsUptoRow.holds Tryd.pinned (OpenSpec.upto derPutsSpec)

/-- 'greatseallaw07.DerGets', WHERE WHAT IT READS IS OF BULK AT MOST 1048576: true; the input reads as it did. -/
def derGetsUptoRow : OpenClaim := { program := "ytpmiihmhfagfoaadoor", sum := "bd4102b08451526058aa8edb65e536f08672cda0d8cfc9c80e04c5631e5fcf09", func := "greatseal/greatseallaw07.DerGets", spec := "derGets", unfollowed := true, recurses := true, named := ["greatseal/der.kinds"], apart := false, laid := [("greatseal/der.kinds", laid_greatseal_der_kinds)], narrowed := true }
def DerGetsUptoSaid : Prop := derGetsUptoRow.holds Tryd.pinned (OpenSpec.upto derGetsSpec)

/-- 'greatseallaw07.DerBack', WHERE WHAT IT READS IS OF BULK AT MOST 1048576: true; the input reads as it did. -/
def derBackUptoRow : OpenClaim := { program := "ytpmiihmhfagfoaadoor", sum := "bd4102b08451526058aa8edb65e536f08672cda0d8cfc9c80e04c5631e5fcf09", func := "greatseal/greatseallaw07.DerBack", spec := "derBack", unfollowed := true, recurses := true, named := ["greatseal/der.kinds"], loops := true, apart := false, laid := [("greatseal/der.kinds", laid_greatseal_der_kinds)], narrowed := true }
def DerBackUptoSaid : Prop := derBackUptoRow.holds Tryd.pinned (OpenSpec.upto derBackSpec)

/-- 'greatseallaw07.DerOnly', WHERE WHAT IT READS IS OF BULK AT MOST 1048576: true; the input reads as it did. -/
def derOnlyUptoRow : OpenClaim := { program := "ytpmiihmhfagfoaadoor", sum := "bd4102b08451526058aa8edb65e536f08672cda0d8cfc9c80e04c5631e5fcf09", func := "greatseal/greatseallaw07.DerOnly", spec := "derOnly", unfollowed := true, recurses := true, named := ["greatseal/der.kinds"], apart := false, laid := [("greatseal/der.kinds", laid_greatseal_der_kinds)], narrowed := true }
def DerOnlyUptoSaid : Prop := derOnlyUptoRow.holds Tryd.pinned (OpenSpec.upto derOnlySpec)

/-- 'greatseallaw07.DerShort', WHERE WHAT IT READS IS OF BULK AT MOST 1048576: true; the input reads as it did. -/
def derShortUptoRow : OpenClaim := { program := "ytpmiihmhfagfoaadoor", sum := "bd4102b08451526058aa8edb65e536f08672cda0d8cfc9c80e04c5631e5fcf09", func := "greatseal/greatseallaw07.DerShort", spec := "derShort", unfollowed := true, recurses := true, named := ["greatseal/der.kinds"], loops := true, apart := false, laid := [("greatseal/der.kinds", laid_greatseal_der_kinds)], narrowed := true }
def DerShortUptoSaid : Prop := derShortUptoRow.holds Tryd.pinned (OpenSpec.upto derShortSpec)

/-- 'greatseallaw07.DerInts', WHERE WHAT IT READS IS OF BULK AT MOST 1048576: true; the input reads as it did. -/
def derIntsUptoRow : OpenClaim := { program := "ytpmiihmhfagfoaadoor", sum := "bd4102b08451526058aa8edb65e536f08672cda0d8cfc9c80e04c5631e5fcf09", func := "greatseal/greatseallaw07.DerInts", spec := "derInts", unfollowed := true, recurses := true, named := ["greatseal/der.kinds"], apart := false, laid := [("greatseal/der.kinds", laid_greatseal_der_kinds)], narrowed := true }
def DerIntsUptoSaid : Prop := derIntsUptoRow.holds Tryd.pinned (OpenSpec.upto derIntsSpec)

/-- 'greatseallaw07.DerSeqs', WHERE WHAT IT READS IS OF BULK AT MOST 1048576: true; the input reads as it did. -/
def derSeqsUptoRow : OpenClaim := { program := "ytpmiihmhfagfoaadoor", sum := "bd4102b08451526058aa8edb65e536f08672cda0d8cfc9c80e04c5631e5fcf09", func := "greatseal/greatseallaw07.DerSeqs", spec := "derSeqs", unfollowed := true, recurses := true, named := ["greatseal/der.kinds"], loops := true, apart := false, laid := [("greatseal/der.kinds", laid_greatseal_der_kinds)], narrowed := true }
def DerSeqsUptoSaid : Prop := derSeqsUptoRow.holds Tryd.pinned (OpenSpec.upto derSeqsSpec)

/-- 'greatseallaw07.DerTells', WHERE WHAT IT READS IS OF BULK AT MOST 1048576: true; the input reads as it did. -/
def derTellsUptoRow : OpenClaim := { program := "ytpmiihmhfagfoaadoor", sum := "bd4102b08451526058aa8edb65e536f08672cda0d8cfc9c80e04c5631e5fcf09", func := "greatseal/greatseallaw07.DerTells", spec := "derTells", unfollowed := true, recurses := true, named := ["greatseal/der.kinds"], loops := true, apart := false, laid := [("greatseal/der.kinds", laid_greatseal_der_kinds)], narrowed := true }
def DerTellsUptoSaid : Prop := derTellsUptoRow.holds Tryd.pinned (OpenSpec.upto derTellsSpec)

/-- 'greatseallaw07.DerMakes', WHERE WHAT IT READS IS OF BULK AT MOST 1048576: true; the input reads as it did. -/
def derMakesUptoRow : OpenClaim := { program := "ytpmiihmhfagfoaadoor", sum := "bd4102b08451526058aa8edb65e536f08672cda0d8cfc9c80e04c5631e5fcf09", func := "greatseal/greatseallaw07.DerMakes", spec := "derMakes", unfollowed := true, recurses := true, named := ["greatseal/der.kinds"], loops := true, apart := false, laid := [("greatseal/der.kinds", laid_greatseal_der_kinds)], narrowed := true }
def DerMakesUptoSaid : Prop := derMakesUptoRow.holds Tryd.pinned (OpenSpec.upto derMakesSpec)

end Rows
end Go.Proofs.YtpmiihmhfagfoaaDoor
