/-
  No cell of these rows narrows 'for every input' (looked for: loops, veiled, ifaces, maps, wideKeys, modest, calm, conditions, laid).
  DERIVED. THE GIVEN ROWS OF THIS SEAT. 10 by the template 'for every input the law returns true; each argument reads behind the call as it read before'; 0 by the template 'total and deterministic' (their statements: YtldkblkcbffelaaTotals.lean).
  GIVEN WITH THE SEED: the statements are not yours to turn. If you find one false, say at which input.
  Laid BY PROGRAM, IN A SANDBOX (cutbox-rows.mjs): the forced cells as the released guide's own fill.sh prints them over the translation 5d46f5d5c329405f… (all of the seat's roots in one cut). By AI agents, Wed Nov 11 2026. No macro, syntax, notation, axiom, sorry.
-/
import Derived.Test.YtldkblkcbffelaaChecked
import GoSem.Claim
import GoSem.ClaimJoined
import GoSem.ClaimMapViews
import Derived.JoinedTies
import Derived.KernelRfl
namespace Go.Proofs.Ytldkblkcbffelaa
/- THE CELL 'sum', in the pinned program and in every row, IS THE sha256 OF THE DUMP (.gsa) THAT YtldkblkcbffelaaProg.lean LOADS. Nothing in Lean hashes anything: it is a label: what it is worth is what the hold of that sum in a sandbox is worth. -/
noncomputable def Try.pinned : Pinned := { name := "ytldkblkcbffelaa", sum := "5d46f5d5c329405f1dfac54fd94c00d08ddc7bac3b8c0d64fc51763cafc4c6a3", checked := Try.checked }
namespace Rows
def none {H : Type} : Left H := { results := [], args := [] }

/-- 'pensionlaw30.ClearingPostAgrees': WHATEVER THE INPUT: true; the input reads as it did. -/
def clearingPostAgreesSpec : ChangeSpec := { name := "clearingPostAgrees", fn := fun _ => fun
  | [d] => { results := [.lit (.bool true)], args := [d] }
  | _ => none }
def clearingPostAgreesRow : OpenClaim := { program := "ytldkblkcbffelaa", sum := "5d46f5d5c329405f1dfac54fd94c00d08ddc7bac3b8c0d64fc51763cafc4c6a3", func := "pension/pensionlaw30.ClearingPostAgrees", spec := "clearingPostAgrees", recurses := true, apart := false }
def ClearingPostAgreesSaid : Prop := clearingPostAgreesRow.holds Try.pinned (OpenSpec.ofChange clearingPostAgreesSpec)

/-- ITS FALSE NEIGHBOUR: 'it returns false'. Refute it at one input. -/
def clearingPostAgreesWrong : ChangeSpec := { name := "clearingPostAgrees", fn := fun _ => fun
  | [d] => { results := [.lit (.bool false)], args := [d] }
  | _ => none }
def ClearingPostAgreesWrongFalsely : Prop := clearingPostAgreesRow.holds Try.pinned (OpenSpec.ofChange clearingPostAgreesWrong)

/-- 'pensionlaw30.ClearingPostRejects': WHATEVER THE INPUT: true; the input reads as it did. -/
def clearingPostRejectsSpec : ChangeSpec := { name := "clearingPostRejects", fn := fun _ => fun
  | [d] => { results := [.lit (.bool true)], args := [d] }
  | _ => none }
def clearingPostRejectsRow : OpenClaim := { program := "ytldkblkcbffelaa", sum := "5d46f5d5c329405f1dfac54fd94c00d08ddc7bac3b8c0d64fc51763cafc4c6a3", func := "pension/pensionlaw30.ClearingPostRejects", spec := "clearingPostRejects", recurses := true, apart := false }
def ClearingPostRejectsSaid : Prop := clearingPostRejectsRow.holds Try.pinned (OpenSpec.ofChange clearingPostRejectsSpec)

/-- ITS FALSE NEIGHBOUR: 'it returns false'. Refute it at one input. -/
def clearingPostRejectsWrong : ChangeSpec := { name := "clearingPostRejects", fn := fun _ => fun
  | [d] => { results := [.lit (.bool false)], args := [d] }
  | _ => none }
def ClearingPostRejectsWrongFalsely : Prop := clearingPostRejectsRow.holds Try.pinned (OpenSpec.ofChange clearingPostRejectsWrong)

/-- 'pensionlaw30.ClearingIsAntisymmetric': WHATEVER THE INPUT: true; the input reads as it did. -/
def clearingIsAntisymmetricSpec : ChangeSpec := { name := "clearingIsAntisymmetric", fn := fun _ => fun
  | [d1, d2, d3, d4] => { results := [.lit (.bool true)], args := [d1, d2, d3, d4] }
  | _ => none }
def clearingIsAntisymmetricRow : OpenClaim := { program := "ytldkblkcbffelaa", sum := "5d46f5d5c329405f1dfac54fd94c00d08ddc7bac3b8c0d64fc51763cafc4c6a3", func := "pension/pensionlaw30.ClearingIsAntisymmetric", spec := "clearingIsAntisymmetric", recurses := true, apart := false }
def ClearingIsAntisymmetricSaid : Prop := clearingIsAntisymmetricRow.holds Try.pinned (OpenSpec.ofChange clearingIsAntisymmetricSpec)

/-- ITS FALSE NEIGHBOUR: 'it returns false'. Refute it at one input. -/
def clearingIsAntisymmetricWrong : ChangeSpec := { name := "clearingIsAntisymmetric", fn := fun _ => fun
  | [d1, d2, d3, d4] => { results := [.lit (.bool false)], args := [d1, d2, d3, d4] }
  | _ => none }
def ClearingIsAntisymmetricWrongFalsely : Prop := clearingIsAntisymmetricRow.holds Try.pinned (OpenSpec.ofChange clearingIsAntisymmetricWrong)

/-- 'pensionlaw30.ClearingSumsToZero': WHATEVER THE INPUT: true; the input reads as it did. -/
def clearingSumsToZeroSpec : ChangeSpec := { name := "clearingSumsToZero", fn := fun _ => fun
  | [d1, d2] => { results := [.lit (.bool true)], args := [d1, d2] }
  | _ => none }
def clearingSumsToZeroRow : OpenClaim := { program := "ytldkblkcbffelaa", sum := "5d46f5d5c329405f1dfac54fd94c00d08ddc7bac3b8c0d64fc51763cafc4c6a3", func := "pension/pensionlaw30.ClearingSumsToZero", spec := "clearingSumsToZero", recurses := true, apart := false }
def ClearingSumsToZeroSaid : Prop := clearingSumsToZeroRow.holds Try.pinned (OpenSpec.ofChange clearingSumsToZeroSpec)

/-- ITS FALSE NEIGHBOUR: 'it returns false'. Refute it at one input. -/
def clearingSumsToZeroWrong : ChangeSpec := { name := "clearingSumsToZero", fn := fun _ => fun
  | [d1, d2] => { results := [.lit (.bool false)], args := [d1, d2] }
  | _ => none }
def ClearingSumsToZeroWrongFalsely : Prop := clearingSumsToZeroRow.holds Try.pinned (OpenSpec.ofChange clearingSumsToZeroWrong)

/-- 'pensionlaw30.ClearingNettingIsShort': WHATEVER THE INPUT: true; the input reads as it did. -/
def clearingNettingIsShortSpec : ChangeSpec := { name := "clearingNettingIsShort", fn := fun _ => fun
  | [d1, d2] => { results := [.lit (.bool true)], args := [d1, d2] }
  | _ => none }
def clearingNettingIsShortRow : OpenClaim := { program := "ytldkblkcbffelaa", sum := "5d46f5d5c329405f1dfac54fd94c00d08ddc7bac3b8c0d64fc51763cafc4c6a3", func := "pension/pensionlaw30.ClearingNettingIsShort", spec := "clearingNettingIsShort", recurses := true, apart := false }
def ClearingNettingIsShortSaid : Prop := clearingNettingIsShortRow.holds Try.pinned (OpenSpec.ofChange clearingNettingIsShortSpec)

/-- ITS FALSE NEIGHBOUR: 'it returns false'. Refute it at one input. -/
def clearingNettingIsShortWrong : ChangeSpec := { name := "clearingNettingIsShort", fn := fun _ => fun
  | [d1, d2] => { results := [.lit (.bool false)], args := [d1, d2] }
  | _ => none }
def ClearingNettingIsShortWrongFalsely : Prop := clearingNettingIsShortRow.holds Try.pinned (OpenSpec.ofChange clearingNettingIsShortWrong)

/-- 'pensionlaw30.ClearingIgnoresOrder': WHATEVER THE INPUT: true; the input reads as it did. -/
def clearingIgnoresOrderSpec : ChangeSpec := { name := "clearingIgnoresOrder", fn := fun _ => fun
  | [d1, d2] => { results := [.lit (.bool true)], args := [d1, d2] }
  | _ => none }
def clearingIgnoresOrderRow : OpenClaim := { program := "ytldkblkcbffelaa", sum := "5d46f5d5c329405f1dfac54fd94c00d08ddc7bac3b8c0d64fc51763cafc4c6a3", func := "pension/pensionlaw30.ClearingIgnoresOrder", spec := "clearingIgnoresOrder", recurses := true, apart := false }
def ClearingIgnoresOrderSaid : Prop := clearingIgnoresOrderRow.holds Try.pinned (OpenSpec.ofChange clearingIgnoresOrderSpec)

/-- ITS FALSE NEIGHBOUR: 'it returns false'. Refute it at one input. -/
def clearingIgnoresOrderWrong : ChangeSpec := { name := "clearingIgnoresOrder", fn := fun _ => fun
  | [d1, d2] => { results := [.lit (.bool false)], args := [d1, d2] }
  | _ => none }
def ClearingIgnoresOrderWrongFalsely : Prop := clearingIgnoresOrderRow.holds Try.pinned (OpenSpec.ofChange clearingIgnoresOrderWrong)

/-- 'pensionlaw30.ClearingForksApart': WHATEVER THE INPUT: true; the input reads as it did. -/
def clearingForksApartSpec : ChangeSpec := { name := "clearingForksApart", fn := fun _ => fun
  | [d1, d2] => { results := [.lit (.bool true)], args := [d1, d2] }
  | _ => none }
def clearingForksApartRow : OpenClaim := { program := "ytldkblkcbffelaa", sum := "5d46f5d5c329405f1dfac54fd94c00d08ddc7bac3b8c0d64fc51763cafc4c6a3", func := "pension/pensionlaw30.ClearingForksApart", spec := "clearingForksApart", recurses := true, apart := false }
def ClearingForksApartSaid : Prop := clearingForksApartRow.holds Try.pinned (OpenSpec.ofChange clearingForksApartSpec)

/-- ITS FALSE NEIGHBOUR: 'it returns false'. Refute it at one input. -/
def clearingForksApartWrong : ChangeSpec := { name := "clearingForksApart", fn := fun _ => fun
  | [d1, d2] => { results := [.lit (.bool false)], args := [d1, d2] }
  | _ => none }
def ClearingForksApartWrongFalsely : Prop := clearingForksApartRow.holds Try.pinned (OpenSpec.ofChange clearingForksApartWrong)

/-- 'pensionlaw30.ClearingNettingSettles': WHATEVER THE INPUT: true; the input reads as it did. -/
def clearingNettingSettlesSpec : ChangeSpec := { name := "clearingNettingSettles", fn := fun _ => fun
  | [d1, d2] => { results := [.lit (.bool true)], args := [d1, d2] }
  | _ => none }
def clearingNettingSettlesRow : OpenClaim := { program := "ytldkblkcbffelaa", sum := "5d46f5d5c329405f1dfac54fd94c00d08ddc7bac3b8c0d64fc51763cafc4c6a3", func := "pension/pensionlaw30.ClearingNettingSettles", spec := "clearingNettingSettles", recurses := true, apart := false }
def ClearingNettingSettlesSaid : Prop := clearingNettingSettlesRow.holds Try.pinned (OpenSpec.ofChange clearingNettingSettlesSpec)

/-- ITS FALSE NEIGHBOUR: 'it returns false'. Refute it at one input. -/
def clearingNettingSettlesWrong : ChangeSpec := { name := "clearingNettingSettles", fn := fun _ => fun
  | [d1, d2] => { results := [.lit (.bool false)], args := [d1, d2] }
  | _ => none }
def ClearingNettingSettlesWrongFalsely : Prop := clearingNettingSettlesRow.holds Try.pinned (OpenSpec.ofChange clearingNettingSettlesWrong)

/-- 'pensionlaw30.ClearingPayAgrees': WHATEVER THE INPUT: true; the input reads as it did. -/
def clearingPayAgreesSpec : ChangeSpec := { name := "clearingPayAgrees", fn := fun _ => fun
  | [d1, d2, d3] => { results := [.lit (.bool true)], args := [d1, d2, d3] }
  | _ => none }
def clearingPayAgreesRow : OpenClaim := { program := "ytldkblkcbffelaa", sum := "5d46f5d5c329405f1dfac54fd94c00d08ddc7bac3b8c0d64fc51763cafc4c6a3", func := "pension/pensionlaw30.ClearingPayAgrees", spec := "clearingPayAgrees", recurses := true, apart := false }
def ClearingPayAgreesSaid : Prop := clearingPayAgreesRow.holds Try.pinned (OpenSpec.ofChange clearingPayAgreesSpec)

/-- ITS FALSE NEIGHBOUR: 'it returns false'. Refute it at one input. -/
def clearingPayAgreesWrong : ChangeSpec := { name := "clearingPayAgrees", fn := fun _ => fun
  | [d1, d2, d3] => { results := [.lit (.bool false)], args := [d1, d2, d3] }
  | _ => none }
def ClearingPayAgreesWrongFalsely : Prop := clearingPayAgreesRow.holds Try.pinned (OpenSpec.ofChange clearingPayAgreesWrong)

/-- 'pensionlaw30.ClearingNil': WHATEVER THE INPUT: true; the input reads as it did. -/
def clearingNilSpec : ChangeSpec := { name := "clearingNil", fn := fun _ => fun
  | [d1, d2, d3, d4] => { results := [.lit (.bool true)], args := [d1, d2, d3, d4] }
  | _ => none }
def clearingNilRow : OpenClaim := { program := "ytldkblkcbffelaa", sum := "5d46f5d5c329405f1dfac54fd94c00d08ddc7bac3b8c0d64fc51763cafc4c6a3", func := "pension/pensionlaw30.ClearingNil", spec := "clearingNil", recurses := true, apart := false }
def ClearingNilSaid : Prop := clearingNilRow.holds Try.pinned (OpenSpec.ofChange clearingNilSpec)

/-- ITS FALSE NEIGHBOUR: 'it returns false'. Refute it at one input. -/
def clearingNilWrong : ChangeSpec := { name := "clearingNil", fn := fun _ => fun
  | [d1, d2, d3, d4] => { results := [.lit (.bool false)], args := [d1, d2, d3, d4] }
  | _ => none }
def ClearingNilWrongFalsely : Prop := clearingNilRow.holds Try.pinned (OpenSpec.ofChange clearingNilWrong)

/- THE SECOND FORM. 'bulk': how many values and letters a reading holds, each counted each time it is reached (what is shared counts as often as it is met; a slice's spare places count too). A statement '..UptoSaid' is the law's where the arguments, and the package variables that the reading takes, are together of bulk at most 1048576: NARROWER than '..Said'. Prove '..Said' where nothing that the law and all that it calls make is longer than what came in: it says more and counts as full. Else prove '..UptoSaid'. A law counts once. -/
mutual
def uptoBulk {H : Type} : DataW H → Nat
  | .lit (.string bytes) => bytes.length + 1
  | .lit _ => 1
  | .nil => 1
  | .ptr d => uptoBulk d + 1
  | .slice elems spare => uptoBulkAll elems + uptoBulkAll spare + 1
  | .agg parts => uptoBulkAll parts + 1
  | .iface _ d => uptoBulk d + 1
  | .map entries => uptoBulkEntries entries + 1
  | .held _ => 1
def uptoBulkAll {H : Type} : List (DataW H) → Nat
  | [] => 0
  | d :: r => uptoBulk d + uptoBulkAll r
def uptoBulkEntries {H : Type} : List (Lit × DataW H) → Nat
  | [] => 0
  | x :: r => uptoBulkEntry x + uptoBulkEntries r
def uptoBulkEntry {H : Type} : Lit × DataW H → Nat
  | (.string bytes, d) => bytes.length + uptoBulk d + 1
  | (_, d) => uptoBulk d + 1
 end
def uptoSmall : (H : Type) → List (DataW H) → Bool := fun _ ds => decide (uptoBulkAll ds ≤ 1048576)
def OpenSpec.upto (s : _root_.Go.ChangeSpec) : _root_.Go.OpenSpec := { _root_.Go.OpenSpec.ofChange s with cond := some uptoSmall }

/-- 'pensionlaw30.ClearingPostAgrees', WHERE WHAT IT READS IS OF BULK AT MOST 1048576: true; the input reads as it did. -/
def clearingPostAgreesUptoRow : OpenClaim := { program := "ytldkblkcbffelaa", sum := "5d46f5d5c329405f1dfac54fd94c00d08ddc7bac3b8c0d64fc51763cafc4c6a3", func := "pension/pensionlaw30.ClearingPostAgrees", spec := "clearingPostAgrees", recurses := true, apart := false, narrowed := true }
def ClearingPostAgreesUptoSaid : Prop := clearingPostAgreesUptoRow.holds Try.pinned (OpenSpec.upto clearingPostAgreesSpec)

/-- 'pensionlaw30.ClearingPostRejects', WHERE WHAT IT READS IS OF BULK AT MOST 1048576: true; the input reads as it did. -/
def clearingPostRejectsUptoRow : OpenClaim := { program := "ytldkblkcbffelaa", sum := "5d46f5d5c329405f1dfac54fd94c00d08ddc7bac3b8c0d64fc51763cafc4c6a3", func := "pension/pensionlaw30.ClearingPostRejects", spec := "clearingPostRejects", recurses := true, apart := false, narrowed := true }
def ClearingPostRejectsUptoSaid : Prop := clearingPostRejectsUptoRow.holds Try.pinned (OpenSpec.upto clearingPostRejectsSpec)

/-- 'pensionlaw30.ClearingIsAntisymmetric', WHERE WHAT IT READS IS OF BULK AT MOST 1048576: true; the input reads as it did. -/
def clearingIsAntisymmetricUptoRow : OpenClaim := { program := "ytldkblkcbffelaa", sum := "5d46f5d5c329405f1dfac54fd94c00d08ddc7bac3b8c0d64fc51763cafc4c6a3", func := "pension/pensionlaw30.ClearingIsAntisymmetric", spec := "clearingIsAntisymmetric", recurses := true, apart := false, narrowed := true }
def ClearingIsAntisymmetricUptoSaid : Prop := clearingIsAntisymmetricUptoRow.holds Try.pinned (OpenSpec.upto clearingIsAntisymmetricSpec)

/-- 'pensionlaw30.ClearingSumsToZero', WHERE WHAT IT READS IS OF BULK AT MOST 1048576: true; the input reads as it did. -/
def clearingSumsToZeroUptoRow : OpenClaim := { program := "ytldkblkcbffelaa", sum := "5d46f5d5c329405f1dfac54fd94c00d08ddc7bac3b8c0d64fc51763cafc4c6a3", func := "pension/pensionlaw30.ClearingSumsToZero", spec := "clearingSumsToZero", recurses := true, apart := false, narrowed := true }
def ClearingSumsToZeroUptoSaid : Prop := clearingSumsToZeroUptoRow.holds Try.pinned (OpenSpec.upto clearingSumsToZeroSpec)

/-- 'pensionlaw30.ClearingNettingIsShort', WHERE WHAT IT READS IS OF BULK AT MOST 1048576: true; the input reads as it did. -/
def clearingNettingIsShortUptoRow : OpenClaim := { program := "ytldkblkcbffelaa", sum := "5d46f5d5c329405f1dfac54fd94c00d08ddc7bac3b8c0d64fc51763cafc4c6a3", func := "pension/pensionlaw30.ClearingNettingIsShort", spec := "clearingNettingIsShort", recurses := true, apart := false, narrowed := true }
def ClearingNettingIsShortUptoSaid : Prop := clearingNettingIsShortUptoRow.holds Try.pinned (OpenSpec.upto clearingNettingIsShortSpec)

/-- 'pensionlaw30.ClearingIgnoresOrder', WHERE WHAT IT READS IS OF BULK AT MOST 1048576: true; the input reads as it did. -/
def clearingIgnoresOrderUptoRow : OpenClaim := { program := "ytldkblkcbffelaa", sum := "5d46f5d5c329405f1dfac54fd94c00d08ddc7bac3b8c0d64fc51763cafc4c6a3", func := "pension/pensionlaw30.ClearingIgnoresOrder", spec := "clearingIgnoresOrder", recurses := true, apart := false, narrowed := true }
def ClearingIgnoresOrderUptoSaid : Prop := clearingIgnoresOrderUptoRow.holds Try.pinned (OpenSpec.upto clearingIgnoresOrderSpec)

/-- 'pensionlaw30.ClearingForksApart', WHERE WHAT IT READS IS OF BULK AT MOST 1048576: true; the input reads as it did. -/
def clearingForksApartUptoRow : OpenClaim := { program := "ytldkblkcbffelaa", sum := "5d46f5d5c329405f1dfac54fd94c00d08ddc7bac3b8c0d64fc51763cafc4c6a3", func := "pension/pensionlaw30.ClearingForksApart", spec := "clearingForksApart", recurses := true, apart := false, narrowed := true }
def ClearingForksApartUptoSaid : Prop := clearingForksApartUptoRow.holds Try.pinned (OpenSpec.upto clearingForksApartSpec)

/-- 'pensionlaw30.ClearingNettingSettles', WHERE WHAT IT READS IS OF BULK AT MOST 1048576: true; the input reads as it did. -/
def clearingNettingSettlesUptoRow : OpenClaim := { program := "ytldkblkcbffelaa", sum := "5d46f5d5c329405f1dfac54fd94c00d08ddc7bac3b8c0d64fc51763cafc4c6a3", func := "pension/pensionlaw30.ClearingNettingSettles", spec := "clearingNettingSettles", recurses := true, apart := false, narrowed := true }
def ClearingNettingSettlesUptoSaid : Prop := clearingNettingSettlesUptoRow.holds Try.pinned (OpenSpec.upto clearingNettingSettlesSpec)

/-- 'pensionlaw30.ClearingPayAgrees', WHERE WHAT IT READS IS OF BULK AT MOST 1048576: true; the input reads as it did. -/
def clearingPayAgreesUptoRow : OpenClaim := { program := "ytldkblkcbffelaa", sum := "5d46f5d5c329405f1dfac54fd94c00d08ddc7bac3b8c0d64fc51763cafc4c6a3", func := "pension/pensionlaw30.ClearingPayAgrees", spec := "clearingPayAgrees", recurses := true, apart := false, narrowed := true }
def ClearingPayAgreesUptoSaid : Prop := clearingPayAgreesUptoRow.holds Try.pinned (OpenSpec.upto clearingPayAgreesSpec)

/-- 'pensionlaw30.ClearingNil', WHERE WHAT IT READS IS OF BULK AT MOST 1048576: true; the input reads as it did. -/
def clearingNilUptoRow : OpenClaim := { program := "ytldkblkcbffelaa", sum := "5d46f5d5c329405f1dfac54fd94c00d08ddc7bac3b8c0d64fc51763cafc4c6a3", func := "pension/pensionlaw30.ClearingNil", spec := "clearingNil", recurses := true, apart := false, narrowed := true }
def ClearingNilUptoSaid : Prop := clearingNilUptoRow.holds Try.pinned (OpenSpec.upto clearingNilSpec)

end Rows
end Go.Proofs.Ytldkblkcbffelaa
