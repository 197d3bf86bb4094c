/-
  No cell of these rows narrows 'for every input' (looked for: loops, veiled, ifaces, maps, wideKeys, modest, calm, conditions, laid).
  DERIVED. THE GIVEN ROWS OF THIS SEAT. 3 by the template 'for every input the law returns true; each argument reads behind the call as it read before'; 0 by the template 'total and deterministic' (their statements: YthncjohekjnjaaaTotals.lean).
  GIVEN WITH THE SEED: the statements are not yours to turn. If you find one false, say at which input.
  Laid BY PROGRAM, IN A SANDBOX (cutbox-rows.mjs): the forced cells as the released guide's own fill.sh prints them over the translation 048ec7f5fd6a0cee… (all of the seat's roots in one cut). By AI agents, Wed Nov 11 2026. No macro, syntax, notation, axiom, sorry.
-/
import Derived.Test.YthncjohekjnjaaaChecked
import GoSem.Claim
import GoSem.ClaimJoined
import GoSem.ClaimMapViews
import Derived.JoinedTies
import Derived.KernelRfl
namespace Go.Proofs.Ythncjohekjnjaaa
/- THE CELL 'sum', in the pinned program and in every row, IS THE sha256 OF THE DUMP (.gsa) THAT YthncjohekjnjaaaProg.lean LOADS. Nothing in Lean hashes anything: it is a label: what it is worth is what the hold of that sum in a sandbox is worth. -/
noncomputable def Try.pinned : Pinned := { name := "ythncjohekjnjaaa", sum := "048ec7f5fd6a0cee4b6ca27c0826bfad64ad3a46414aecbddad942653bf0a1d2", checked := Try.checked }
namespace Rows
def none {H : Type} : Left H := { results := [], args := [] }

/-- 'pensionlaw14.TreatyDays': WHATEVER THE INPUT: true; the input reads as it did. -/
def treatyDaysSpec : ChangeSpec := { name := "treatyDays", fn := fun _ => fun
  | [d1, d2, d3, d4] => { results := [.lit (.bool true)], args := [d1, d2, d3, d4] }
  | _ => none }
def treatyDaysRow : OpenClaim := { program := "ythncjohekjnjaaa", sum := "048ec7f5fd6a0cee4b6ca27c0826bfad64ad3a46414aecbddad942653bf0a1d2", func := "pension/pensionlaw14.TreatyDays", spec := "treatyDays", inPlace := ["internal/reflectlite.ValueOf", "internal/reflectlite.Swapper", "(internal/reflectlite.Value).Len"], unfollowed := true, recurses := true, apart := false }
def TreatyDaysSaid : Prop := treatyDaysRow.holds Try.pinned (OpenSpec.ofChange treatyDaysSpec)

/-- ITS FALSE NEIGHBOUR: 'it returns false'. Refute it at one input. -/
def treatyDaysWrong : ChangeSpec := { name := "treatyDays", fn := fun _ => fun
  | [d1, d2, d3, d4] => { results := [.lit (.bool false)], args := [d1, d2, d3, d4] }
  | _ => none }
def TreatyDaysWrongFalsely : Prop := treatyDaysRow.holds Try.pinned (OpenSpec.ofChange treatyDaysWrong)

/-- 'pensionlaw14.TreatyMembers': WHATEVER THE INPUT: true; the input reads as it did. -/
def treatyMembersSpec : ChangeSpec := { name := "treatyMembers", fn := fun _ => fun
  | [d1, d2, d3, d4] => { results := [.lit (.bool true)], args := [d1, d2, d3, d4] }
  | _ => none }
def treatyMembersRow : OpenClaim := { program := "ythncjohekjnjaaa", sum := "048ec7f5fd6a0cee4b6ca27c0826bfad64ad3a46414aecbddad942653bf0a1d2", func := "pension/pensionlaw14.TreatyMembers", spec := "treatyMembers", inPlace := ["internal/reflectlite.ValueOf", "internal/reflectlite.Swapper", "(internal/reflectlite.Value).Len"], unfollowed := true, recurses := true, apart := false }
def TreatyMembersSaid : Prop := treatyMembersRow.holds Try.pinned (OpenSpec.ofChange treatyMembersSpec)

/-- ITS FALSE NEIGHBOUR: 'it returns false'. Refute it at one input. -/
def treatyMembersWrong : ChangeSpec := { name := "treatyMembers", fn := fun _ => fun
  | [d1, d2, d3, d4] => { results := [.lit (.bool false)], args := [d1, d2, d3, d4] }
  | _ => none }
def TreatyMembersWrongFalsely : Prop := treatyMembersRow.holds Try.pinned (OpenSpec.ofChange treatyMembersWrong)

/-- 'pensionlaw14.TreatyChecks': WHATEVER THE INPUT: true; the input reads as it did. -/
def treatyChecksSpec : ChangeSpec := { name := "treatyChecks", fn := fun _ => fun
  | [d1, d2] => { results := [.lit (.bool true)], args := [d1, d2] }
  | _ => none }
def treatyChecksRow : OpenClaim := { program := "ythncjohekjnjaaa", sum := "048ec7f5fd6a0cee4b6ca27c0826bfad64ad3a46414aecbddad942653bf0a1d2", func := "pension/pensionlaw14.TreatyChecks", spec := "treatyChecks", inPlace := ["internal/reflectlite.ValueOf", "internal/reflectlite.Swapper", "(internal/reflectlite.Value).Len"], unfollowed := true, recurses := true, apart := false }
def TreatyChecksSaid : Prop := treatyChecksRow.holds Try.pinned (OpenSpec.ofChange treatyChecksSpec)

/-- ITS FALSE NEIGHBOUR: 'it returns false'. Refute it at one input. -/
def treatyChecksWrong : ChangeSpec := { name := "treatyChecks", fn := fun _ => fun
  | [d1, d2] => { results := [.lit (.bool false)], args := [d1, d2] }
  | _ => none }
def TreatyChecksWrongFalsely : Prop := treatyChecksRow.holds Try.pinned (OpenSpec.ofChange treatyChecksWrong)

/- THE SECOND FORM. 'bulk': how many values and letters a reading holds, each counted each time it is reached (what is shared counts as often as it is met; a slice's spare places count too). A statement '..UptoSaid' is the law's where the arguments, and the package variables that the reading takes, are together of bulk at most 1048576: NARROWER than '..Said'. Prove '..Said' where nothing that the law and all that it calls make is longer than what came in: it says more and counts as full. Else prove '..UptoSaid'. A law counts once. -/
mutual
def uptoBulk {H : Type} : DataW H → Nat
  | .lit (.string bytes) => bytes.length + 1
  | .lit _ => 1
  | .nil => 1
  | .ptr d => uptoBulk d + 1
  | .slice elems spare => uptoBulkAll elems + uptoBulkAll spare + 1
  | .agg parts => uptoBulkAll parts + 1
  | .iface _ d => uptoBulk d + 1
  | .map entries => uptoBulkEntries entries + 1
  | .held _ => 1
def uptoBulkAll {H : Type} : List (DataW H) → Nat
  | [] => 0
  | d :: r => uptoBulk d + uptoBulkAll r
def uptoBulkEntries {H : Type} : List (Lit × DataW H) → Nat
  | [] => 0
  | x :: r => uptoBulkEntry x + uptoBulkEntries r
def uptoBulkEntry {H : Type} : Lit × DataW H → Nat
  | (.string bytes, d) => bytes.length + uptoBulk d + 1
  | (_, d) => uptoBulk d + 1
 end
def uptoSmall : (H : Type) → List (DataW H) → Bool := fun _ ds => decide (uptoBulkAll ds ≤ 1048576)
def OpenSpec.upto (s : _root_.Go.ChangeSpec) : _root_.Go.OpenSpec := { _root_.Go.OpenSpec.ofChange s with cond := some uptoSmall }

/-- 'pensionlaw14.TreatyDays', WHERE WHAT IT READS IS OF BULK AT MOST 1048576: true; the input reads as it did. -/
def treatyDaysUptoRow : OpenClaim := { program := "ythncjohekjnjaaa", sum := "048ec7f5fd6a0cee4b6ca27c0826bfad64ad3a46414aecbddad942653bf0a1d2", func := "pension/pensionlaw14.TreatyDays", spec := "treatyDays", inPlace := ["internal/reflectlite.ValueOf", "internal/reflectlite.Swapper", "(internal/reflectlite.Value).Len"], unfollowed := true, recurses := true, apart := false, narrowed := true }
def TreatyDaysUptoSaid : Prop := treatyDaysUptoRow.holds Try.pinned (OpenSpec.upto treatyDaysSpec)

/-- 'pensionlaw14.TreatyMembers', WHERE WHAT IT READS IS OF BULK AT MOST 1048576: true; the input reads as it did. -/
def treatyMembersUptoRow : OpenClaim := { program := "ythncjohekjnjaaa", sum := "048ec7f5fd6a0cee4b6ca27c0826bfad64ad3a46414aecbddad942653bf0a1d2", func := "pension/pensionlaw14.TreatyMembers", spec := "treatyMembers", inPlace := ["internal/reflectlite.ValueOf", "internal/reflectlite.Swapper", "(internal/reflectlite.Value).Len"], unfollowed := true, recurses := true, apart := false, narrowed := true }
def TreatyMembersUptoSaid : Prop := treatyMembersUptoRow.holds Try.pinned (OpenSpec.upto treatyMembersSpec)

/-- 'pensionlaw14.TreatyChecks', WHERE WHAT IT READS IS OF BULK AT MOST 1048576: true; the input reads as it did. -/
def treatyChecksUptoRow : OpenClaim := { program := "ythncjohekjnjaaa", sum := "048ec7f5fd6a0cee4b6ca27c0826bfad64ad3a46414aecbddad942653bf0a1d2", func := "pension/pensionlaw14.TreatyChecks", spec := "treatyChecks", inPlace := ["internal/reflectlite.ValueOf", "internal/reflectlite.Swapper", "(internal/reflectlite.Value).Len"], unfollowed := true, recurses := true, apart := false, narrowed := true }
def TreatyChecksUptoSaid : Prop := treatyChecksUptoRow.holds Try.pinned (OpenSpec.upto treatyChecksSpec)

end Rows
end Go.Proofs.Ythncjohekjnjaaa
