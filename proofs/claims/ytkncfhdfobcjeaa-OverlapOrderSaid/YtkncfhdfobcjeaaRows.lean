/-
  No cell of these rows narrows 'for every input' (looked for: loops, veiled, ifaces, maps, wideKeys, modest, calm, conditions, laid).
  DERIVED. THE GIVEN ROWS OF THIS SEAT. 11 by the template 'for every input the law returns true; each argument reads behind the call as it read before'; 0 by the template 'total and deterministic' (their statements: YtkncfhdfobcjeaaTotals.lean).
  GIVEN WITH THE SEED: the statements are not yours to turn. If you find one false, say at which input.
  Laid BY PROGRAM, IN A SANDBOX (cutbox-rows.mjs): the forced cells as the released guide's own fill.sh prints them over the translation c5569875b5cd78d9… (all of the seat's roots in one cut). By AI agents, Wed Nov 11 2026. No macro, syntax, notation, axiom, sorry.
-/
import Derived.Test.YtkncfhdfobcjeaaChecked
import GoSem.Claim
import GoSem.ClaimJoined
import GoSem.ClaimMapViews
import Derived.JoinedTies
import Derived.KernelRfl
namespace Go.Proofs.Ytkncfhdfobcjeaa
/- THE CELL 'sum', in the pinned program and in every row, IS THE sha256 OF THE DUMP (.gsa) THAT YtkncfhdfobcjeaaProg.lean LOADS. Nothing in Lean hashes anything: it is a label: what it is worth is what the hold of that sum in a sandbox is worth. -/
noncomputable def Try.pinned : Pinned := { name := "ytkncfhdfobcjeaa", sum := "c5569875b5cd78d9a4e27a149d3de58dd36d13f5107e1e6a560681c653772f68", checked := Try.checked }
namespace Rows
def none {H : Type} : Left H := { results := [], args := [] }

/-- 'pensionlaw14.TreatyDays': WHATEVER THE INPUT: true; the input reads as it did. -/
def treatyDaysSpec : ChangeSpec := { name := "treatyDays", fn := fun _ => fun
  | [d1, d2, d3, d4] => { results := [.lit (.bool true)], args := [d1, d2, d3, d4] }
  | _ => none }
def treatyDaysRow : OpenClaim := { program := "ytkncfhdfobcjeaa", sum := "c5569875b5cd78d9a4e27a149d3de58dd36d13f5107e1e6a560681c653772f68", func := "pension/pensionlaw14.TreatyDays", spec := "treatyDays", inPlace := ["internal/reflectlite.ValueOf", "internal/reflectlite.Swapper", "(internal/reflectlite.Value).Len"], unfollowed := true, recurses := true, apart := false }
def TreatyDaysSaid : Prop := treatyDaysRow.holds Try.pinned (OpenSpec.ofChange treatyDaysSpec)

/-- ITS FALSE NEIGHBOUR: 'it returns false'. Refute it at one input. -/
def treatyDaysWrong : ChangeSpec := { name := "treatyDays", fn := fun _ => fun
  | [d1, d2, d3, d4] => { results := [.lit (.bool false)], args := [d1, d2, d3, d4] }
  | _ => none }
def TreatyDaysWrongFalsely : Prop := treatyDaysRow.holds Try.pinned (OpenSpec.ofChange treatyDaysWrong)

/-- 'pensionlaw14.TreatyMembers': WHATEVER THE INPUT: true; the input reads as it did. -/
def treatyMembersSpec : ChangeSpec := { name := "treatyMembers", fn := fun _ => fun
  | [d1, d2, d3, d4] => { results := [.lit (.bool true)], args := [d1, d2, d3, d4] }
  | _ => none }
def treatyMembersRow : OpenClaim := { program := "ytkncfhdfobcjeaa", sum := "c5569875b5cd78d9a4e27a149d3de58dd36d13f5107e1e6a560681c653772f68", func := "pension/pensionlaw14.TreatyMembers", spec := "treatyMembers", inPlace := ["internal/reflectlite.ValueOf", "internal/reflectlite.Swapper", "(internal/reflectlite.Value).Len"], unfollowed := true, recurses := true, apart := false }
def TreatyMembersSaid : Prop := treatyMembersRow.holds Try.pinned (OpenSpec.ofChange treatyMembersSpec)

/-- ITS FALSE NEIGHBOUR: 'it returns false'. Refute it at one input. -/
def treatyMembersWrong : ChangeSpec := { name := "treatyMembers", fn := fun _ => fun
  | [d1, d2, d3, d4] => { results := [.lit (.bool false)], args := [d1, d2, d3, d4] }
  | _ => none }
def TreatyMembersWrongFalsely : Prop := treatyMembersRow.holds Try.pinned (OpenSpec.ofChange treatyMembersWrong)

/-- 'pensionlaw14.TreatyChecks': WHATEVER THE INPUT: true; the input reads as it did. -/
def treatyChecksSpec : ChangeSpec := { name := "treatyChecks", fn := fun _ => fun
  | [d1, d2] => { results := [.lit (.bool true)], args := [d1, d2] }
  | _ => none }
def treatyChecksRow : OpenClaim := { program := "ytkncfhdfobcjeaa", sum := "c5569875b5cd78d9a4e27a149d3de58dd36d13f5107e1e6a560681c653772f68", func := "pension/pensionlaw14.TreatyChecks", spec := "treatyChecks", inPlace := ["internal/reflectlite.ValueOf", "internal/reflectlite.Swapper", "(internal/reflectlite.Value).Len"], unfollowed := true, recurses := true, apart := false }
def TreatyChecksSaid : Prop := treatyChecksRow.holds Try.pinned (OpenSpec.ofChange treatyChecksSpec)

/-- ITS FALSE NEIGHBOUR: 'it returns false'. Refute it at one input. -/
def treatyChecksWrong : ChangeSpec := { name := "treatyChecks", fn := fun _ => fun
  | [d1, d2] => { results := [.lit (.bool false)], args := [d1, d2] }
  | _ => none }
def TreatyChecksWrongFalsely : Prop := treatyChecksRow.holds Try.pinned (OpenSpec.ofChange treatyChecksWrong)

/-- 'pensionlaw17.OverlapResolves': WHATEVER THE INPUT: true; the input reads as it did. -/
def overlapResolvesSpec : ChangeSpec := { name := "overlapResolves", fn := fun _ => fun
  | [d1, d2] => { results := [.lit (.bool true)], args := [d1, d2] }
  | _ => none }
def overlapResolvesRow : OpenClaim := { program := "ytkncfhdfobcjeaa", sum := "c5569875b5cd78d9a4e27a149d3de58dd36d13f5107e1e6a560681c653772f68", func := "pension/pensionlaw17.OverlapResolves", spec := "overlapResolves", inPlace := ["internal/reflectlite.ValueOf", "internal/reflectlite.Swapper", "(internal/reflectlite.Value).Len"], unfollowed := true, recurses := true, apart := false }
def OverlapResolvesSaid : Prop := overlapResolvesRow.holds Try.pinned (OpenSpec.ofChange overlapResolvesSpec)

/-- ITS FALSE NEIGHBOUR: 'it returns false'. Refute it at one input. -/
def overlapResolvesWrong : ChangeSpec := { name := "overlapResolves", fn := fun _ => fun
  | [d1, d2] => { results := [.lit (.bool false)], args := [d1, d2] }
  | _ => none }
def OverlapResolvesWrongFalsely : Prop := overlapResolvesRow.holds Try.pinned (OpenSpec.ofChange overlapResolvesWrong)

/-- 'pensionlaw17.OverlapOnce': WHATEVER THE INPUT: true; the input reads as it did. -/
def overlapOnceSpec : ChangeSpec := { name := "overlapOnce", fn := fun _ => fun
  | [d1, d2, d3] => { results := [.lit (.bool true)], args := [d1, d2, d3] }
  | _ => none }
def overlapOnceRow : OpenClaim := { program := "ytkncfhdfobcjeaa", sum := "c5569875b5cd78d9a4e27a149d3de58dd36d13f5107e1e6a560681c653772f68", func := "pension/pensionlaw17.OverlapOnce", spec := "overlapOnce", inPlace := ["internal/reflectlite.ValueOf", "internal/reflectlite.Swapper", "(internal/reflectlite.Value).Len"], unfollowed := true, recurses := true, apart := false }
def OverlapOnceSaid : Prop := overlapOnceRow.holds Try.pinned (OpenSpec.ofChange overlapOnceSpec)

/-- ITS FALSE NEIGHBOUR: 'it returns false'. Refute it at one input. -/
def overlapOnceWrong : ChangeSpec := { name := "overlapOnce", fn := fun _ => fun
  | [d1, d2, d3] => { results := [.lit (.bool false)], args := [d1, d2, d3] }
  | _ => none }
def OverlapOnceWrongFalsely : Prop := overlapOnceRow.holds Try.pinned (OpenSpec.ofChange overlapOnceWrong)

/-- 'pensionlaw17.OverlapOrder': WHATEVER THE INPUT: true; the input reads as it did. -/
def overlapOrderSpec : ChangeSpec := { name := "overlapOrder", fn := fun _ => fun
  | [d1, d2, d3, d4, d5] => { results := [.lit (.bool true)], args := [d1, d2, d3, d4, d5] }
  | _ => none }
def overlapOrderRow : OpenClaim := { program := "ytkncfhdfobcjeaa", sum := "c5569875b5cd78d9a4e27a149d3de58dd36d13f5107e1e6a560681c653772f68", func := "pension/pensionlaw17.OverlapOrder", spec := "overlapOrder", inPlace := ["internal/reflectlite.ValueOf", "internal/reflectlite.Swapper", "(internal/reflectlite.Value).Len"], unfollowed := true, recurses := true, apart := false }
def OverlapOrderSaid : Prop := overlapOrderRow.holds Try.pinned (OpenSpec.ofChange overlapOrderSpec)

/-- ITS FALSE NEIGHBOUR: 'it returns false'. Refute it at one input. -/
def overlapOrderWrong : ChangeSpec := { name := "overlapOrder", fn := fun _ => fun
  | [d1, d2, d3, d4, d5] => { results := [.lit (.bool false)], args := [d1, d2, d3, d4, d5] }
  | _ => none }
def OverlapOrderWrongFalsely : Prop := overlapOrderRow.holds Try.pinned (OpenSpec.ofChange overlapOrderWrong)

/-- 'pensionlaw17.OverlapDays': WHATEVER THE INPUT: true; the input reads as it did. -/
def overlapDaysSpec : ChangeSpec := { name := "overlapDays", fn := fun _ => fun
  | [d1, d2, d3] => { results := [.lit (.bool true)], args := [d1, d2, d3] }
  | _ => none }
def overlapDaysRow : OpenClaim := { program := "ytkncfhdfobcjeaa", sum := "c5569875b5cd78d9a4e27a149d3de58dd36d13f5107e1e6a560681c653772f68", func := "pension/pensionlaw17.OverlapDays", spec := "overlapDays", inPlace := ["internal/reflectlite.ValueOf", "internal/reflectlite.Swapper", "(internal/reflectlite.Value).Len"], unfollowed := true, recurses := true, apart := false }
def OverlapDaysSaid : Prop := overlapDaysRow.holds Try.pinned (OpenSpec.ofChange overlapDaysSpec)

/-- ITS FALSE NEIGHBOUR: 'it returns false'. Refute it at one input. -/
def overlapDaysWrong : ChangeSpec := { name := "overlapDays", fn := fun _ => fun
  | [d1, d2, d3] => { results := [.lit (.bool false)], args := [d1, d2, d3] }
  | _ => none }
def OverlapDaysWrongFalsely : Prop := overlapDaysRow.holds Try.pinned (OpenSpec.ofChange overlapDaysWrong)

/-- 'pensionlaw17.OverlapRanks': WHATEVER THE INPUT: true; the input reads as it did. -/
def overlapRanksSpec : ChangeSpec := { name := "overlapRanks", fn := fun _ => fun
  | [d1, d2, d3] => { results := [.lit (.bool true)], args := [d1, d2, d3] }
  | _ => none }
def overlapRanksRow : OpenClaim := { program := "ytkncfhdfobcjeaa", sum := "c5569875b5cd78d9a4e27a149d3de58dd36d13f5107e1e6a560681c653772f68", func := "pension/pensionlaw17.OverlapRanks", spec := "overlapRanks", inPlace := ["internal/reflectlite.ValueOf", "internal/reflectlite.Swapper", "(internal/reflectlite.Value).Len"], unfollowed := true, recurses := true, apart := false }
def OverlapRanksSaid : Prop := overlapRanksRow.holds Try.pinned (OpenSpec.ofChange overlapRanksSpec)

/-- ITS FALSE NEIGHBOUR: 'it returns false'. Refute it at one input. -/
def overlapRanksWrong : ChangeSpec := { name := "overlapRanks", fn := fun _ => fun
  | [d1, d2, d3] => { results := [.lit (.bool false)], args := [d1, d2, d3] }
  | _ => none }
def OverlapRanksWrongFalsely : Prop := overlapRanksRow.holds Try.pinned (OpenSpec.ofChange overlapRanksWrong)

/-- 'pensionlaw17.OverlapLocal': WHATEVER THE INPUT: true; the input reads as it did. -/
def overlapLocalSpec : ChangeSpec := { name := "overlapLocal", fn := fun _ => fun
  | [d1, d2, d3] => { results := [.lit (.bool true)], args := [d1, d2, d3] }
  | _ => none }
def overlapLocalRow : OpenClaim := { program := "ytkncfhdfobcjeaa", sum := "c5569875b5cd78d9a4e27a149d3de58dd36d13f5107e1e6a560681c653772f68", func := "pension/pensionlaw17.OverlapLocal", spec := "overlapLocal", inPlace := ["internal/reflectlite.ValueOf", "internal/reflectlite.Swapper", "(internal/reflectlite.Value).Len"], unfollowed := true, recurses := true, apart := false }
def OverlapLocalSaid : Prop := overlapLocalRow.holds Try.pinned (OpenSpec.ofChange overlapLocalSpec)

/-- ITS FALSE NEIGHBOUR: 'it returns false'. Refute it at one input. -/
def overlapLocalWrong : ChangeSpec := { name := "overlapLocal", fn := fun _ => fun
  | [d1, d2, d3] => { results := [.lit (.bool false)], args := [d1, d2, d3] }
  | _ => none }
def OverlapLocalWrongFalsely : Prop := overlapLocalRow.holds Try.pinned (OpenSpec.ofChange overlapLocalWrong)

/-- 'pensionlaw17.OverlapAlone': WHATEVER THE INPUT: true; the input reads as it did. -/
def overlapAloneSpec : ChangeSpec := { name := "overlapAlone", fn := fun _ => fun
  | [d1, d2, d3, d4] => { results := [.lit (.bool true)], args := [d1, d2, d3, d4] }
  | _ => none }
def overlapAloneRow : OpenClaim := { program := "ytkncfhdfobcjeaa", sum := "c5569875b5cd78d9a4e27a149d3de58dd36d13f5107e1e6a560681c653772f68", func := "pension/pensionlaw17.OverlapAlone", spec := "overlapAlone", inPlace := ["internal/reflectlite.ValueOf", "internal/reflectlite.Swapper", "(internal/reflectlite.Value).Len"], unfollowed := true, recurses := true, apart := false }
def OverlapAloneSaid : Prop := overlapAloneRow.holds Try.pinned (OpenSpec.ofChange overlapAloneSpec)

/-- ITS FALSE NEIGHBOUR: 'it returns false'. Refute it at one input. -/
def overlapAloneWrong : ChangeSpec := { name := "overlapAlone", fn := fun _ => fun
  | [d1, d2, d3, d4] => { results := [.lit (.bool false)], args := [d1, d2, d3, d4] }
  | _ => none }
def OverlapAloneWrongFalsely : Prop := overlapAloneRow.holds Try.pinned (OpenSpec.ofChange overlapAloneWrong)

/-- 'pensionlaw17.OverlapSelects': WHATEVER THE INPUT: true; the input reads as it did. -/
def overlapSelectsSpec : ChangeSpec := { name := "overlapSelects", fn := fun _ => fun
  | [d1, d2, d3, d4] => { results := [.lit (.bool true)], args := [d1, d2, d3, d4] }
  | _ => none }
def overlapSelectsRow : OpenClaim := { program := "ytkncfhdfobcjeaa", sum := "c5569875b5cd78d9a4e27a149d3de58dd36d13f5107e1e6a560681c653772f68", func := "pension/pensionlaw17.OverlapSelects", spec := "overlapSelects", inPlace := ["internal/reflectlite.ValueOf", "internal/reflectlite.Swapper", "(internal/reflectlite.Value).Len"], unfollowed := true, recurses := true, apart := false }
def OverlapSelectsSaid : Prop := overlapSelectsRow.holds Try.pinned (OpenSpec.ofChange overlapSelectsSpec)

/-- ITS FALSE NEIGHBOUR: 'it returns false'. Refute it at one input. -/
def overlapSelectsWrong : ChangeSpec := { name := "overlapSelects", fn := fun _ => fun
  | [d1, d2, d3, d4] => { results := [.lit (.bool false)], args := [d1, d2, d3, d4] }
  | _ => none }
def OverlapSelectsWrongFalsely : Prop := overlapSelectsRow.holds Try.pinned (OpenSpec.ofChange overlapSelectsWrong)

/- THE SECOND FORM. 'bulk': how many values and letters a reading holds, each counted each time it is reached (what is shared counts as often as it is met; a slice's spare places count too). A statement '..UptoSaid' is the law's where the arguments, and the package variables that the reading takes, are together of bulk at most 1048576: NARROWER than '..Said'. Prove '..Said' where nothing that the law and all that it calls make is longer than what came in: it says more and counts as full. Else prove '..UptoSaid'. A law counts once. -/
mutual
def uptoBulk {H : Type} : DataW H → Nat
  | .lit (.string bytes) => bytes.length + 1
  | .lit _ => 1
  | .nil => 1
  | .ptr d => uptoBulk d + 1
  | .slice elems spare => uptoBulkAll elems + uptoBulkAll spare + 1
  | .agg parts => uptoBulkAll parts + 1
  | .iface _ d => uptoBulk d + 1
  | .map entries => uptoBulkEntries entries + 1
  | .held _ => 1
def uptoBulkAll {H : Type} : List (DataW H) → Nat
  | [] => 0
  | d :: r => uptoBulk d + uptoBulkAll r
def uptoBulkEntries {H : Type} : List (Lit × DataW H) → Nat
  | [] => 0
  | x :: r => uptoBulkEntry x + uptoBulkEntries r
def uptoBulkEntry {H : Type} : Lit × DataW H → Nat
  | (.string bytes, d) => bytes.length + uptoBulk d + 1
  | (_, d) => uptoBulk d + 1
 end
def uptoSmall : (H : Type) → List (DataW H) → Bool := fun _ ds => decide (uptoBulkAll ds ≤ 1048576)
def OpenSpec.upto (s : _root_.Go.ChangeSpec) : _root_.Go.OpenSpec := { _root_.Go.OpenSpec.ofChange s with cond := some uptoSmall }

/-- 'pensionlaw14.TreatyDays', WHERE WHAT IT READS IS OF BULK AT MOST 1048576: true; the input reads as it did. -/
def treatyDaysUptoRow : OpenClaim := { program := "ytkncfhdfobcjeaa", sum := "c5569875b5cd78d9a4e27a149d3de58dd36d13f5107e1e6a560681c653772f68", func := "pension/pensionlaw14.TreatyDays", spec := "treatyDays", inPlace := ["internal/reflectlite.ValueOf", "internal/reflectlite.Swapper", "(internal/reflectlite.Value).Len"], unfollowed := true, recurses := true, apart := false, narrowed := true }
def TreatyDaysUptoSaid : Prop := treatyDaysUptoRow.holds Try.pinned (OpenSpec.upto treatyDaysSpec)

/-- 'pensionlaw14.TreatyMembers', WHERE WHAT IT READS IS OF BULK AT MOST 1048576: true; the input reads as it did. -/
def treatyMembersUptoRow : OpenClaim := { program := "ytkncfhdfobcjeaa", sum := "c5569875b5cd78d9a4e27a149d3de58dd36d13f5107e1e6a560681c653772f68", func := "pension/pensionlaw14.TreatyMembers", spec := "treatyMembers", inPlace := ["internal/reflectlite.ValueOf", "internal/reflectlite.Swapper", "(internal/reflectlite.Value).Len"], unfollowed := true, recurses := true, apart := false, narrowed := true }
def TreatyMembersUptoSaid : Prop := treatyMembersUptoRow.holds Try.pinned (OpenSpec.upto treatyMembersSpec)

/-- 'pensionlaw14.TreatyChecks', WHERE WHAT IT READS IS OF BULK AT MOST 1048576: true; the input reads as it did. -/
def treatyChecksUptoRow : OpenClaim := { program := "ytkncfhdfobcjeaa", sum := "c5569875b5cd78d9a4e27a149d3de58dd36d13f5107e1e6a560681c653772f68", func := "pension/pensionlaw14.TreatyChecks", spec := "treatyChecks", inPlace := ["internal/reflectlite.ValueOf", "internal/reflectlite.Swapper", "(internal/reflectlite.Value).Len"], unfollowed := true, recurses := true, apart := false, narrowed := true }
def TreatyChecksUptoSaid : Prop := treatyChecksUptoRow.holds Try.pinned (OpenSpec.upto treatyChecksSpec)

/-- 'pensionlaw17.OverlapResolves', WHERE WHAT IT READS IS OF BULK AT MOST 1048576: true; the input reads as it did. -/
def overlapResolvesUptoRow : OpenClaim := { program := "ytkncfhdfobcjeaa", sum := "c5569875b5cd78d9a4e27a149d3de58dd36d13f5107e1e6a560681c653772f68", func := "pension/pensionlaw17.OverlapResolves", spec := "overlapResolves", inPlace := ["internal/reflectlite.ValueOf", "internal/reflectlite.Swapper", "(internal/reflectlite.Value).Len"], unfollowed := true, recurses := true, apart := false, narrowed := true }
def OverlapResolvesUptoSaid : Prop := overlapResolvesUptoRow.holds Try.pinned (OpenSpec.upto overlapResolvesSpec)

/-- 'pensionlaw17.OverlapOnce', WHERE WHAT IT READS IS OF BULK AT MOST 1048576: true; the input reads as it did. -/
def overlapOnceUptoRow : OpenClaim := { program := "ytkncfhdfobcjeaa", sum := "c5569875b5cd78d9a4e27a149d3de58dd36d13f5107e1e6a560681c653772f68", func := "pension/pensionlaw17.OverlapOnce", spec := "overlapOnce", inPlace := ["internal/reflectlite.ValueOf", "internal/reflectlite.Swapper", "(internal/reflectlite.Value).Len"], unfollowed := true, recurses := true, apart := false, narrowed := true }
def OverlapOnceUptoSaid : Prop := overlapOnceUptoRow.holds Try.pinned (OpenSpec.upto overlapOnceSpec)

/-- 'pensionlaw17.OverlapOrder', WHERE WHAT IT READS IS OF BULK AT MOST 1048576: true; the input reads as it did. -/
def overlapOrderUptoRow : OpenClaim := { program := "ytkncfhdfobcjeaa", sum := "c5569875b5cd78d9a4e27a149d3de58dd36d13f5107e1e6a560681c653772f68", func := "pension/pensionlaw17.OverlapOrder", spec := "overlapOrder", inPlace := ["internal/reflectlite.ValueOf", "internal/reflectlite.Swapper", "(internal/reflectlite.Value).Len"], unfollowed := true, recurses := true, apart := false, narrowed := true }
def OverlapOrderUptoSaid : Prop := overlapOrderUptoRow.holds Try.pinned (OpenSpec.upto overlapOrderSpec)

/-- 'pensionlaw17.OverlapDays', WHERE WHAT IT READS IS OF BULK AT MOST 1048576: true; the input reads as it did. -/
def overlapDaysUptoRow : OpenClaim := { program := "ytkncfhdfobcjeaa", sum := "c5569875b5cd78d9a4e27a149d3de58dd36d13f5107e1e6a560681c653772f68", func := "pension/pensionlaw17.OverlapDays", spec := "overlapDays", inPlace := ["internal/reflectlite.ValueOf", "internal/reflectlite.Swapper", "(internal/reflectlite.Value).Len"], unfollowed := true, recurses := true, apart := false, narrowed := true }
def OverlapDaysUptoSaid : Prop := overlapDaysUptoRow.holds Try.pinned (OpenSpec.upto overlapDaysSpec)

/-- 'pensionlaw17.OverlapRanks', WHERE WHAT IT READS IS OF BULK AT MOST 1048576: true; the input reads as it did. -/
def overlapRanksUptoRow : OpenClaim := { program := "ytkncfhdfobcjeaa", sum := "c5569875b5cd78d9a4e27a149d3de58dd36d13f5107e1e6a560681c653772f68", func := "pension/pensionlaw17.OverlapRanks", spec := "overlapRanks", inPlace := ["internal/reflectlite.ValueOf", "internal/reflectlite.Swapper", "(internal/reflectlite.Value).Len"], unfollowed := true, recurses := true, apart := false, narrowed := true }
def OverlapRanksUptoSaid : Prop := overlapRanksUptoRow.holds Try.pinned (OpenSpec.upto overlapRanksSpec)

/-- 'pensionlaw17.OverlapLocal', WHERE WHAT IT READS IS OF BULK AT MOST 1048576: true; the input reads as it did. -/
def overlapLocalUptoRow : OpenClaim := { program := "ytkncfhdfobcjeaa", sum := "c5569875b5cd78d9a4e27a149d3de58dd36d13f5107e1e6a560681c653772f68", func := "pension/pensionlaw17.OverlapLocal", spec := "overlapLocal", inPlace := ["internal/reflectlite.ValueOf", "internal/reflectlite.Swapper", "(internal/reflectlite.Value).Len"], unfollowed := true, recurses := true, apart := false, narrowed := true }
def OverlapLocalUptoSaid : Prop := overlapLocalUptoRow.holds Try.pinned (OpenSpec.upto overlapLocalSpec)

/-- 'pensionlaw17.OverlapAlone', WHERE WHAT IT READS IS OF BULK AT MOST 1048576: true; the input reads as it did. -/
def overlapAloneUptoRow : OpenClaim := { program := "ytkncfhdfobcjeaa", sum := "c5569875b5cd78d9a4e27a149d3de58dd36d13f5107e1e6a560681c653772f68", func := "pension/pensionlaw17.OverlapAlone", spec := "overlapAlone", inPlace := ["internal/reflectlite.ValueOf", "internal/reflectlite.Swapper", "(internal/reflectlite.Value).Len"], unfollowed := true, recurses := true, apart := false, narrowed := true }
def OverlapAloneUptoSaid : Prop := overlapAloneUptoRow.holds Try.pinned (OpenSpec.upto overlapAloneSpec)

/-- 'pensionlaw17.OverlapSelects', WHERE WHAT IT READS IS OF BULK AT MOST 1048576: true; the input reads as it did. -/
def overlapSelectsUptoRow : OpenClaim := { program := "ytkncfhdfobcjeaa", sum := "c5569875b5cd78d9a4e27a149d3de58dd36d13f5107e1e6a560681c653772f68", func := "pension/pensionlaw17.OverlapSelects", spec := "overlapSelects", inPlace := ["internal/reflectlite.ValueOf", "internal/reflectlite.Swapper", "(internal/reflectlite.Value).Len"], unfollowed := true, recurses := true, apart := false, narrowed := true }
def OverlapSelectsUptoSaid : Prop := overlapSelectsUptoRow.holds Try.pinned (OpenSpec.upto overlapSelectsSpec)

end Rows
end Go.Proofs.Ytkncfhdfobcjeaa
