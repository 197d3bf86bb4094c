/-
  No cell of these rows narrows 'for every input' (looked for: loops, veiled, ifaces, maps, wideKeys, modest, calm, conditions, laid).
  DERIVED. THE GIVEN ROWS OF THIS SEAT. 10 by the template 'for every input the law returns true; each argument reads behind the call as it read before'; 0 by the template 'total and deterministic' (their statements: YtnjloghphkjcoaaTotals.lean).
  GIVEN WITH THE SEED: the statements are not yours to turn. If you find one false, say at which input.
  Laid BY PROGRAM, IN A SANDBOX (cutbox-rows.mjs): the forced cells as the released guide's own fill.sh prints them over the translation 7aae9952b73a32ec… (all of the seat's roots in one cut). By AI agents, Wed Nov 11 2026. No macro, syntax, notation, axiom, sorry.
-/
import Derived.Test.YtnjloghphkjcoaaChecked
import GoSem.Claim
import GoSem.ClaimJoined
import GoSem.ClaimMapViews
import Derived.JoinedTies
import Derived.KernelRfl
namespace Go.Proofs.Ytnjloghphkjcoaa
/- THE CELL 'sum', in the pinned program and in every row, IS THE sha256 OF THE DUMP (.gsa) THAT YtnjloghphkjcoaaProg.lean LOADS. Nothing in Lean hashes anything: it is a label: what it is worth is what the hold of that sum in a sandbox is worth. -/
noncomputable def Try.pinned : Pinned := { name := "ytnjloghphkjcoaa", sum := "7aae9952b73a32ec67e494833f2acac6efbaa8466a94441213e6cc1e5f232376", checked := Try.checked }
namespace Rows
def none {H : Type} : Left H := { results := [], args := [] }

/-- 'pensionlaw27.ScheduleValidAgrees': WHATEVER THE INPUT: true; the input reads as it did. -/
def scheduleValidAgreesSpec : ChangeSpec := { name := "scheduleValidAgrees", fn := fun _ => fun
  | [d1, d2, d3, d4] => { results := [.lit (.bool true)], args := [d1, d2, d3, d4] }
  | _ => none }
def scheduleValidAgreesRow : OpenClaim := { program := "ytnjloghphkjcoaa", sum := "7aae9952b73a32ec67e494833f2acac6efbaa8466a94441213e6cc1e5f232376", func := "pension/pensionlaw27.ScheduleValidAgrees", spec := "scheduleValidAgrees", recurses := true, apart := false }
def ScheduleValidAgreesSaid : Prop := scheduleValidAgreesRow.holds Try.pinned (OpenSpec.ofChange scheduleValidAgreesSpec)

/-- ITS FALSE NEIGHBOUR: 'it returns false'. Refute it at one input. -/
def scheduleValidAgreesWrong : ChangeSpec := { name := "scheduleValidAgrees", fn := fun _ => fun
  | [d1, d2, d3, d4] => { results := [.lit (.bool false)], args := [d1, d2, d3, d4] }
  | _ => none }
def ScheduleValidAgreesWrongFalsely : Prop := scheduleValidAgreesRow.holds Try.pinned (OpenSpec.ofChange scheduleValidAgreesWrong)

/-- 'pensionlaw27.ScheduleValidNeedsEachField': WHATEVER THE INPUT: true; the input reads as it did. -/
def scheduleValidNeedsEachFieldSpec : ChangeSpec := { name := "scheduleValidNeedsEachField", fn := fun _ => fun
  | [d1, d2, d3, d4, d5] => { results := [.lit (.bool true)], args := [d1, d2, d3, d4, d5] }
  | _ => none }
def scheduleValidNeedsEachFieldRow : OpenClaim := { program := "ytnjloghphkjcoaa", sum := "7aae9952b73a32ec67e494833f2acac6efbaa8466a94441213e6cc1e5f232376", func := "pension/pensionlaw27.ScheduleValidNeedsEachField", spec := "scheduleValidNeedsEachField", recurses := true, apart := false }
def ScheduleValidNeedsEachFieldSaid : Prop := scheduleValidNeedsEachFieldRow.holds Try.pinned (OpenSpec.ofChange scheduleValidNeedsEachFieldSpec)

/-- ITS FALSE NEIGHBOUR: 'it returns false'. Refute it at one input. -/
def scheduleValidNeedsEachFieldWrong : ChangeSpec := { name := "scheduleValidNeedsEachField", fn := fun _ => fun
  | [d1, d2, d3, d4, d5] => { results := [.lit (.bool false)], args := [d1, d2, d3, d4, d5] }
  | _ => none }
def ScheduleValidNeedsEachFieldWrongFalsely : Prop := scheduleValidNeedsEachFieldRow.holds Try.pinned (OpenSpec.ofChange scheduleValidNeedsEachFieldWrong)

/-- 'pensionlaw27.ScheduleAmountAgrees': WHATEVER THE INPUT: true; the input reads as it did. -/
def scheduleAmountAgreesSpec : ChangeSpec := { name := "scheduleAmountAgrees", fn := fun _ => fun
  | [d1, d2, d3, d4, d5] => { results := [.lit (.bool true)], args := [d1, d2, d3, d4, d5] }
  | _ => none }
def scheduleAmountAgreesRow : OpenClaim := { program := "ytnjloghphkjcoaa", sum := "7aae9952b73a32ec67e494833f2acac6efbaa8466a94441213e6cc1e5f232376", func := "pension/pensionlaw27.ScheduleAmountAgrees", spec := "scheduleAmountAgrees", recurses := true, apart := false }
def ScheduleAmountAgreesSaid : Prop := scheduleAmountAgreesRow.holds Try.pinned (OpenSpec.ofChange scheduleAmountAgreesSpec)

/-- ITS FALSE NEIGHBOUR: 'it returns false'. Refute it at one input. -/
def scheduleAmountAgreesWrong : ChangeSpec := { name := "scheduleAmountAgrees", fn := fun _ => fun
  | [d1, d2, d3, d4, d5] => { results := [.lit (.bool false)], args := [d1, d2, d3, d4, d5] }
  | _ => none }
def ScheduleAmountAgreesWrongFalsely : Prop := scheduleAmountAgreesRow.holds Try.pinned (OpenSpec.ofChange scheduleAmountAgreesWrong)

/-- 'pensionlaw27.ScheduleDueAgrees': WHATEVER THE INPUT: true; the input reads as it did. -/
def scheduleDueAgreesSpec : ChangeSpec := { name := "scheduleDueAgrees", fn := fun _ => fun
  | [d1, d2, d3, d4] => { results := [.lit (.bool true)], args := [d1, d2, d3, d4] }
  | _ => none }
def scheduleDueAgreesRow : OpenClaim := { program := "ytnjloghphkjcoaa", sum := "7aae9952b73a32ec67e494833f2acac6efbaa8466a94441213e6cc1e5f232376", func := "pension/pensionlaw27.ScheduleDueAgrees", spec := "scheduleDueAgrees", recurses := true, apart := false }
def ScheduleDueAgreesSaid : Prop := scheduleDueAgreesRow.holds Try.pinned (OpenSpec.ofChange scheduleDueAgreesSpec)

/-- ITS FALSE NEIGHBOUR: 'it returns false'. Refute it at one input. -/
def scheduleDueAgreesWrong : ChangeSpec := { name := "scheduleDueAgrees", fn := fun _ => fun
  | [d1, d2, d3, d4] => { results := [.lit (.bool false)], args := [d1, d2, d3, d4] }
  | _ => none }
def ScheduleDueAgreesWrongFalsely : Prop := scheduleDueAgreesRow.holds Try.pinned (OpenSpec.ofChange scheduleDueAgreesWrong)

/-- 'pensionlaw27.ScheduleTotalAgrees': WHATEVER THE INPUT: true; the input reads as it did. -/
def scheduleTotalAgreesSpec : ChangeSpec := { name := "scheduleTotalAgrees", fn := fun _ => fun
  | [d1, d2, d3, d4, d5] => { results := [.lit (.bool true)], args := [d1, d2, d3, d4, d5] }
  | _ => none }
def scheduleTotalAgreesRow : OpenClaim := { program := "ytnjloghphkjcoaa", sum := "7aae9952b73a32ec67e494833f2acac6efbaa8466a94441213e6cc1e5f232376", func := "pension/pensionlaw27.ScheduleTotalAgrees", spec := "scheduleTotalAgrees", recurses := true, apart := false }
def ScheduleTotalAgreesSaid : Prop := scheduleTotalAgreesRow.holds Try.pinned (OpenSpec.ofChange scheduleTotalAgreesSpec)

/-- ITS FALSE NEIGHBOUR: 'it returns false'. Refute it at one input. -/
def scheduleTotalAgreesWrong : ChangeSpec := { name := "scheduleTotalAgrees", fn := fun _ => fun
  | [d1, d2, d3, d4, d5] => { results := [.lit (.bool false)], args := [d1, d2, d3, d4, d5] }
  | _ => none }
def ScheduleTotalAgreesWrongFalsely : Prop := scheduleTotalAgreesRow.holds Try.pinned (OpenSpec.ofChange scheduleTotalAgreesWrong)

/-- 'pensionlaw27.ScheduleTotalOfParts': WHATEVER THE INPUT: true; the input reads as it did. -/
def scheduleTotalOfPartsSpec : ChangeSpec := { name := "scheduleTotalOfParts", fn := fun _ => fun
  | [d1, d2, d3, d4, d5, d6] => { results := [.lit (.bool true)], args := [d1, d2, d3, d4, d5, d6] }
  | _ => none }
def scheduleTotalOfPartsRow : OpenClaim := { program := "ytnjloghphkjcoaa", sum := "7aae9952b73a32ec67e494833f2acac6efbaa8466a94441213e6cc1e5f232376", func := "pension/pensionlaw27.ScheduleTotalOfParts", spec := "scheduleTotalOfParts", recurses := true, apart := false }
def ScheduleTotalOfPartsSaid : Prop := scheduleTotalOfPartsRow.holds Try.pinned (OpenSpec.ofChange scheduleTotalOfPartsSpec)

/-- ITS FALSE NEIGHBOUR: 'it returns false'. Refute it at one input. -/
def scheduleTotalOfPartsWrong : ChangeSpec := { name := "scheduleTotalOfParts", fn := fun _ => fun
  | [d1, d2, d3, d4, d5, d6] => { results := [.lit (.bool false)], args := [d1, d2, d3, d4, d5, d6] }
  | _ => none }
def ScheduleTotalOfPartsWrongFalsely : Prop := scheduleTotalOfPartsRow.holds Try.pinned (OpenSpec.ofChange scheduleTotalOfPartsWrong)

/-- 'pensionlaw27.ScheduleRejects': WHATEVER THE INPUT: true; the input reads as it did. -/
def scheduleRejectsSpec : ChangeSpec := { name := "scheduleRejects", fn := fun _ => fun
  | [d1, d2, d3, d4] => { results := [.lit (.bool true)], args := [d1, d2, d3, d4] }
  | _ => none }
def scheduleRejectsRow : OpenClaim := { program := "ytnjloghphkjcoaa", sum := "7aae9952b73a32ec67e494833f2acac6efbaa8466a94441213e6cc1e5f232376", func := "pension/pensionlaw27.ScheduleRejects", spec := "scheduleRejects", recurses := true, apart := false }
def ScheduleRejectsSaid : Prop := scheduleRejectsRow.holds Try.pinned (OpenSpec.ofChange scheduleRejectsSpec)

/-- ITS FALSE NEIGHBOUR: 'it returns false'. Refute it at one input. -/
def scheduleRejectsWrong : ChangeSpec := { name := "scheduleRejects", fn := fun _ => fun
  | [d1, d2, d3, d4] => { results := [.lit (.bool false)], args := [d1, d2, d3, d4] }
  | _ => none }
def ScheduleRejectsWrongFalsely : Prop := scheduleRejectsRow.holds Try.pinned (OpenSpec.ofChange scheduleRejectsWrong)

/-- 'pensionlaw27.ScheduleDifferenceAgrees': WHATEVER THE INPUT: true; the input reads as it did. -/
def scheduleDifferenceAgreesSpec : ChangeSpec := { name := "scheduleDifferenceAgrees", fn := fun _ => fun
  | [d1, d2, d3, d4, d5, d6] => { results := [.lit (.bool true)], args := [d1, d2, d3, d4, d5, d6] }
  | _ => none }
def scheduleDifferenceAgreesRow : OpenClaim := { program := "ytnjloghphkjcoaa", sum := "7aae9952b73a32ec67e494833f2acac6efbaa8466a94441213e6cc1e5f232376", func := "pension/pensionlaw27.ScheduleDifferenceAgrees", spec := "scheduleDifferenceAgrees", recurses := true, apart := false }
def ScheduleDifferenceAgreesSaid : Prop := scheduleDifferenceAgreesRow.holds Try.pinned (OpenSpec.ofChange scheduleDifferenceAgreesSpec)

/-- ITS FALSE NEIGHBOUR: 'it returns false'. Refute it at one input. -/
def scheduleDifferenceAgreesWrong : ChangeSpec := { name := "scheduleDifferenceAgrees", fn := fun _ => fun
  | [d1, d2, d3, d4, d5, d6] => { results := [.lit (.bool false)], args := [d1, d2, d3, d4, d5, d6] }
  | _ => none }
def ScheduleDifferenceAgreesWrongFalsely : Prop := scheduleDifferenceAgreesRow.holds Try.pinned (OpenSpec.ofChange scheduleDifferenceAgreesWrong)

/-- 'pensionlaw27.ScheduleDifferenceExplains': WHATEVER THE INPUT: true; the input reads as it did. -/
def scheduleDifferenceExplainsSpec : ChangeSpec := { name := "scheduleDifferenceExplains", fn := fun _ => fun
  | [d1, d2, d3, d4, d5, d6] => { results := [.lit (.bool true)], args := [d1, d2, d3, d4, d5, d6] }
  | _ => none }
def scheduleDifferenceExplainsRow : OpenClaim := { program := "ytnjloghphkjcoaa", sum := "7aae9952b73a32ec67e494833f2acac6efbaa8466a94441213e6cc1e5f232376", func := "pension/pensionlaw27.ScheduleDifferenceExplains", spec := "scheduleDifferenceExplains", recurses := true, apart := false }
def ScheduleDifferenceExplainsSaid : Prop := scheduleDifferenceExplainsRow.holds Try.pinned (OpenSpec.ofChange scheduleDifferenceExplainsSpec)

/-- ITS FALSE NEIGHBOUR: 'it returns false'. Refute it at one input. -/
def scheduleDifferenceExplainsWrong : ChangeSpec := { name := "scheduleDifferenceExplains", fn := fun _ => fun
  | [d1, d2, d3, d4, d5, d6] => { results := [.lit (.bool false)], args := [d1, d2, d3, d4, d5, d6] }
  | _ => none }
def ScheduleDifferenceExplainsWrongFalsely : Prop := scheduleDifferenceExplainsRow.holds Try.pinned (OpenSpec.ofChange scheduleDifferenceExplainsWrong)

/-- 'pensionlaw27.ScheduleEndIsTheDeath': WHATEVER THE INPUT: true; the input reads as it did. -/
def scheduleEndIsTheDeathSpec : ChangeSpec := { name := "scheduleEndIsTheDeath", fn := fun _ => fun
  | [d1, d2, d3] => { results := [.lit (.bool true)], args := [d1, d2, d3] }
  | _ => none }
def scheduleEndIsTheDeathRow : OpenClaim := { program := "ytnjloghphkjcoaa", sum := "7aae9952b73a32ec67e494833f2acac6efbaa8466a94441213e6cc1e5f232376", func := "pension/pensionlaw27.ScheduleEndIsTheDeath", spec := "scheduleEndIsTheDeath", inPlace := ["internal/bytealg.IndexByteString", "internal/bytealg.IndexString", "internal/bytealg.Compare"], unfollowed := true, recurses := true, named := ["internal/bytealg.MaxLen"], apart := false }
def ScheduleEndIsTheDeathSaid : Prop := scheduleEndIsTheDeathRow.holds Try.pinned (OpenSpec.ofChange scheduleEndIsTheDeathSpec)

/-- ITS FALSE NEIGHBOUR: 'it returns false'. Refute it at one input. -/
def scheduleEndIsTheDeathWrong : ChangeSpec := { name := "scheduleEndIsTheDeath", fn := fun _ => fun
  | [d1, d2, d3] => { results := [.lit (.bool false)], args := [d1, d2, d3] }
  | _ => none }
def ScheduleEndIsTheDeathWrongFalsely : Prop := scheduleEndIsTheDeathRow.holds Try.pinned (OpenSpec.ofChange scheduleEndIsTheDeathWrong)

/- THE SECOND FORM. 'bulk': how many values and letters a reading holds, each counted each time it is reached (what is shared counts as often as it is met; a slice's spare places count too). A statement '..UptoSaid' is the law's where the arguments, and the package variables that the reading takes, are together of bulk at most 1048576: NARROWER than '..Said'. Prove '..Said' where nothing that the law and all that it calls make is longer than what came in: it says more and counts as full. Else prove '..UptoSaid'. A law counts once. -/
mutual
def uptoBulk {H : Type} : DataW H → Nat
  | .lit (.string bytes) => bytes.length + 1
  | .lit _ => 1
  | .nil => 1
  | .ptr d => uptoBulk d + 1
  | .slice elems spare => uptoBulkAll elems + uptoBulkAll spare + 1
  | .agg parts => uptoBulkAll parts + 1
  | .iface _ d => uptoBulk d + 1
  | .map entries => uptoBulkEntries entries + 1
  | .held _ => 1
def uptoBulkAll {H : Type} : List (DataW H) → Nat
  | [] => 0
  | d :: r => uptoBulk d + uptoBulkAll r
def uptoBulkEntries {H : Type} : List (Lit × DataW H) → Nat
  | [] => 0
  | x :: r => uptoBulkEntry x + uptoBulkEntries r
def uptoBulkEntry {H : Type} : Lit × DataW H → Nat
  | (.string bytes, d) => bytes.length + uptoBulk d + 1
  | (_, d) => uptoBulk d + 1
 end
def uptoSmall : (H : Type) → List (DataW H) → Bool := fun _ ds => decide (uptoBulkAll ds ≤ 1048576)
def OpenSpec.upto (s : _root_.Go.ChangeSpec) : _root_.Go.OpenSpec := { _root_.Go.OpenSpec.ofChange s with cond := some uptoSmall }

/-- 'pensionlaw27.ScheduleValidAgrees', WHERE WHAT IT READS IS OF BULK AT MOST 1048576: true; the input reads as it did. -/
def scheduleValidAgreesUptoRow : OpenClaim := { program := "ytnjloghphkjcoaa", sum := "7aae9952b73a32ec67e494833f2acac6efbaa8466a94441213e6cc1e5f232376", func := "pension/pensionlaw27.ScheduleValidAgrees", spec := "scheduleValidAgrees", recurses := true, apart := false, narrowed := true }
def ScheduleValidAgreesUptoSaid : Prop := scheduleValidAgreesUptoRow.holds Try.pinned (OpenSpec.upto scheduleValidAgreesSpec)

/-- 'pensionlaw27.ScheduleValidNeedsEachField', WHERE WHAT IT READS IS OF BULK AT MOST 1048576: true; the input reads as it did. -/
def scheduleValidNeedsEachFieldUptoRow : OpenClaim := { program := "ytnjloghphkjcoaa", sum := "7aae9952b73a32ec67e494833f2acac6efbaa8466a94441213e6cc1e5f232376", func := "pension/pensionlaw27.ScheduleValidNeedsEachField", spec := "scheduleValidNeedsEachField", recurses := true, apart := false, narrowed := true }
def ScheduleValidNeedsEachFieldUptoSaid : Prop := scheduleValidNeedsEachFieldUptoRow.holds Try.pinned (OpenSpec.upto scheduleValidNeedsEachFieldSpec)

/-- 'pensionlaw27.ScheduleAmountAgrees', WHERE WHAT IT READS IS OF BULK AT MOST 1048576: true; the input reads as it did. -/
def scheduleAmountAgreesUptoRow : OpenClaim := { program := "ytnjloghphkjcoaa", sum := "7aae9952b73a32ec67e494833f2acac6efbaa8466a94441213e6cc1e5f232376", func := "pension/pensionlaw27.ScheduleAmountAgrees", spec := "scheduleAmountAgrees", recurses := true, apart := false, narrowed := true }
def ScheduleAmountAgreesUptoSaid : Prop := scheduleAmountAgreesUptoRow.holds Try.pinned (OpenSpec.upto scheduleAmountAgreesSpec)

/-- 'pensionlaw27.ScheduleDueAgrees', WHERE WHAT IT READS IS OF BULK AT MOST 1048576: true; the input reads as it did. -/
def scheduleDueAgreesUptoRow : OpenClaim := { program := "ytnjloghphkjcoaa", sum := "7aae9952b73a32ec67e494833f2acac6efbaa8466a94441213e6cc1e5f232376", func := "pension/pensionlaw27.ScheduleDueAgrees", spec := "scheduleDueAgrees", recurses := true, apart := false, narrowed := true }
def ScheduleDueAgreesUptoSaid : Prop := scheduleDueAgreesUptoRow.holds Try.pinned (OpenSpec.upto scheduleDueAgreesSpec)

/-- 'pensionlaw27.ScheduleTotalAgrees', WHERE WHAT IT READS IS OF BULK AT MOST 1048576: true; the input reads as it did. -/
def scheduleTotalAgreesUptoRow : OpenClaim := { program := "ytnjloghphkjcoaa", sum := "7aae9952b73a32ec67e494833f2acac6efbaa8466a94441213e6cc1e5f232376", func := "pension/pensionlaw27.ScheduleTotalAgrees", spec := "scheduleTotalAgrees", recurses := true, apart := false, narrowed := true }
def ScheduleTotalAgreesUptoSaid : Prop := scheduleTotalAgreesUptoRow.holds Try.pinned (OpenSpec.upto scheduleTotalAgreesSpec)

/-- 'pensionlaw27.ScheduleTotalOfParts', WHERE WHAT IT READS IS OF BULK AT MOST 1048576: true; the input reads as it did. -/
def scheduleTotalOfPartsUptoRow : OpenClaim := { program := "ytnjloghphkjcoaa", sum := "7aae9952b73a32ec67e494833f2acac6efbaa8466a94441213e6cc1e5f232376", func := "pension/pensionlaw27.ScheduleTotalOfParts", spec := "scheduleTotalOfParts", recurses := true, apart := false, narrowed := true }
def ScheduleTotalOfPartsUptoSaid : Prop := scheduleTotalOfPartsUptoRow.holds Try.pinned (OpenSpec.upto scheduleTotalOfPartsSpec)

/-- 'pensionlaw27.ScheduleRejects', WHERE WHAT IT READS IS OF BULK AT MOST 1048576: true; the input reads as it did. -/
def scheduleRejectsUptoRow : OpenClaim := { program := "ytnjloghphkjcoaa", sum := "7aae9952b73a32ec67e494833f2acac6efbaa8466a94441213e6cc1e5f232376", func := "pension/pensionlaw27.ScheduleRejects", spec := "scheduleRejects", recurses := true, apart := false, narrowed := true }
def ScheduleRejectsUptoSaid : Prop := scheduleRejectsUptoRow.holds Try.pinned (OpenSpec.upto scheduleRejectsSpec)

/-- 'pensionlaw27.ScheduleDifferenceAgrees', WHERE WHAT IT READS IS OF BULK AT MOST 1048576: true; the input reads as it did. -/
def scheduleDifferenceAgreesUptoRow : OpenClaim := { program := "ytnjloghphkjcoaa", sum := "7aae9952b73a32ec67e494833f2acac6efbaa8466a94441213e6cc1e5f232376", func := "pension/pensionlaw27.ScheduleDifferenceAgrees", spec := "scheduleDifferenceAgrees", recurses := true, apart := false, narrowed := true }
def ScheduleDifferenceAgreesUptoSaid : Prop := scheduleDifferenceAgreesUptoRow.holds Try.pinned (OpenSpec.upto scheduleDifferenceAgreesSpec)

/-- 'pensionlaw27.ScheduleDifferenceExplains', WHERE WHAT IT READS IS OF BULK AT MOST 1048576: true; the input reads as it did. -/
def scheduleDifferenceExplainsUptoRow : OpenClaim := { program := "ytnjloghphkjcoaa", sum := "7aae9952b73a32ec67e494833f2acac6efbaa8466a94441213e6cc1e5f232376", func := "pension/pensionlaw27.ScheduleDifferenceExplains", spec := "scheduleDifferenceExplains", recurses := true, apart := false, narrowed := true }
def ScheduleDifferenceExplainsUptoSaid : Prop := scheduleDifferenceExplainsUptoRow.holds Try.pinned (OpenSpec.upto scheduleDifferenceExplainsSpec)

/-- 'pensionlaw27.ScheduleEndIsTheDeath', WHERE WHAT IT READS IS OF BULK AT MOST 1048576: true; the input reads as it did. -/
def scheduleEndIsTheDeathUptoRow : OpenClaim := { program := "ytnjloghphkjcoaa", sum := "7aae9952b73a32ec67e494833f2acac6efbaa8466a94441213e6cc1e5f232376", func := "pension/pensionlaw27.ScheduleEndIsTheDeath", spec := "scheduleEndIsTheDeath", inPlace := ["internal/bytealg.IndexByteString", "internal/bytealg.IndexString", "internal/bytealg.Compare"], unfollowed := true, recurses := true, named := ["internal/bytealg.MaxLen"], apart := false, narrowed := true }
def ScheduleEndIsTheDeathUptoSaid : Prop := scheduleEndIsTheDeathUptoRow.holds Try.pinned (OpenSpec.upto scheduleEndIsTheDeathSpec)

end Rows
end Go.Proofs.Ytnjloghphkjcoaa
