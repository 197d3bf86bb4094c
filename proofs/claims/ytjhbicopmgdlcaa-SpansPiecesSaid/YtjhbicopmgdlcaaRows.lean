/-
  No cell of these rows narrows 'for every input' (looked for: loops, veiled, ifaces, maps, wideKeys, modest, calm, conditions, laid).
  DERIVED. THE GIVEN ROWS OF THIS SEAT. 12 by the template 'for every input the law returns true; each argument reads behind the call as it read before'; 0 by the template 'total and deterministic' (their statements: YtjhbicopmgdlcaaTotals.lean).
  GIVEN WITH THE SEED: the statements are not yours to turn. If you find one false, say at which input.
  Laid BY PROGRAM, IN A SANDBOX (cutbox-rows.mjs): the forced cells as the released guide's own fill.sh prints them over the translation d77660aead328995… (all of the seat's roots in one cut). By AI agents, Wed Nov 11 2026. No macro, syntax, notation, axiom, sorry.
-/
import Derived.Test.YtjhbicopmgdlcaaChecked
import GoSem.Claim
import GoSem.ClaimJoined
import GoSem.ClaimMapViews
import Derived.JoinedTies
import Derived.KernelRfl
namespace Go.Proofs.Ytjhbicopmgdlcaa
/- THE CELL 'sum', in the pinned program and in every row, IS THE sha256 OF THE DUMP (.gsa) THAT YtjhbicopmgdlcaaProg.lean LOADS. Nothing in Lean hashes anything: it is a label: what it is worth is what the hold of that sum in a sandbox is worth. -/
noncomputable def Try.pinned : Pinned := { name := "ytjhbicopmgdlcaa", sum := "d77660aead328995ab9437979899be034b6d8c61bdd405c45889943bcc3b7aa8", checked := Try.checked }
namespace Rows
def none {H : Type} : Left H := { results := [], args := [] }

/-- 'pensionlaw2.SpansMake': WHATEVER THE INPUT: true; the input reads as it did. -/
def spansMakeSpec : ChangeSpec := { name := "spansMake", fn := fun _ => fun
  | [d1, d2] => { results := [.lit (.bool true)], args := [d1, d2] }
  | _ => none }
def spansMakeRow : OpenClaim := { program := "ytjhbicopmgdlcaa", sum := "d77660aead328995ab9437979899be034b6d8c61bdd405c45889943bcc3b7aa8", func := "pension/pensionlaw2.SpansMake", spec := "spansMake", inPlace := ["internal/reflectlite.ValueOf", "internal/reflectlite.Swapper", "(internal/reflectlite.Value).Len"], unfollowed := true, recurses := true, apart := false }
def SpansMakeSaid : Prop := spansMakeRow.holds Try.pinned (OpenSpec.ofChange spansMakeSpec)

/-- ITS FALSE NEIGHBOUR: 'it returns false'. Refute it at one input. -/
def spansMakeWrong : ChangeSpec := { name := "spansMake", fn := fun _ => fun
  | [d1, d2] => { results := [.lit (.bool false)], args := [d1, d2] }
  | _ => none }
def SpansMakeWrongFalsely : Prop := spansMakeRow.holds Try.pinned (OpenSpec.ofChange spansMakeWrong)

/-- 'pensionlaw2.SpansNth': WHATEVER THE INPUT: true; the input reads as it did. -/
def spansNthSpec : ChangeSpec := { name := "spansNth", fn := fun _ => fun
  | [d1, d2, d3] => { results := [.lit (.bool true)], args := [d1, d2, d3] }
  | _ => none }
def spansNthRow : OpenClaim := { program := "ytjhbicopmgdlcaa", sum := "d77660aead328995ab9437979899be034b6d8c61bdd405c45889943bcc3b7aa8", func := "pension/pensionlaw2.SpansNth", spec := "spansNth", inPlace := ["internal/reflectlite.ValueOf", "internal/reflectlite.Swapper", "(internal/reflectlite.Value).Len"], unfollowed := true, recurses := true, apart := false }
def SpansNthSaid : Prop := spansNthRow.holds Try.pinned (OpenSpec.ofChange spansNthSpec)

/-- ITS FALSE NEIGHBOUR: 'it returns false'. Refute it at one input. -/
def spansNthWrong : ChangeSpec := { name := "spansNth", fn := fun _ => fun
  | [d1, d2, d3] => { results := [.lit (.bool false)], args := [d1, d2, d3] }
  | _ => none }
def SpansNthWrongFalsely : Prop := spansNthRow.holds Try.pinned (OpenSpec.ofChange spansNthWrong)

/-- 'pensionlaw2.SpansParts': WHATEVER THE INPUT: true; the input reads as it did. -/
def spansPartsSpec : ChangeSpec := { name := "spansParts", fn := fun _ => fun
  | [d1, d2, d3, d4] => { results := [.lit (.bool true)], args := [d1, d2, d3, d4] }
  | _ => none }
def spansPartsRow : OpenClaim := { program := "ytjhbicopmgdlcaa", sum := "d77660aead328995ab9437979899be034b6d8c61bdd405c45889943bcc3b7aa8", func := "pension/pensionlaw2.SpansParts", spec := "spansParts", inPlace := ["internal/reflectlite.ValueOf", "internal/reflectlite.Swapper", "(internal/reflectlite.Value).Len"], unfollowed := true, recurses := true, apart := false }
def SpansPartsSaid : Prop := spansPartsRow.holds Try.pinned (OpenSpec.ofChange spansPartsSpec)

/-- ITS FALSE NEIGHBOUR: 'it returns false'. Refute it at one input. -/
def spansPartsWrong : ChangeSpec := { name := "spansParts", fn := fun _ => fun
  | [d1, d2, d3, d4] => { results := [.lit (.bool false)], args := [d1, d2, d3, d4] }
  | _ => none }
def SpansPartsWrongFalsely : Prop := spansPartsRow.holds Try.pinned (OpenSpec.ofChange spansPartsWrong)

/-- 'pensionlaw2.SpansSame': WHATEVER THE INPUT: true; the input reads as it did. -/
def spansSameSpec : ChangeSpec := { name := "spansSame", fn := fun _ => fun
  | [d1, d2, d3] => { results := [.lit (.bool true)], args := [d1, d2, d3] }
  | _ => none }
def spansSameRow : OpenClaim := { program := "ytjhbicopmgdlcaa", sum := "d77660aead328995ab9437979899be034b6d8c61bdd405c45889943bcc3b7aa8", func := "pension/pensionlaw2.SpansSame", spec := "spansSame", inPlace := ["internal/reflectlite.ValueOf", "internal/reflectlite.Swapper", "(internal/reflectlite.Value).Len"], unfollowed := true, recurses := true, apart := false }
def SpansSameSaid : Prop := spansSameRow.holds Try.pinned (OpenSpec.ofChange spansSameSpec)

/-- ITS FALSE NEIGHBOUR: 'it returns false'. Refute it at one input. -/
def spansSameWrong : ChangeSpec := { name := "spansSame", fn := fun _ => fun
  | [d1, d2, d3] => { results := [.lit (.bool false)], args := [d1, d2, d3] }
  | _ => none }
def SpansSameWrongFalsely : Prop := spansSameRow.holds Try.pinned (OpenSpec.ofChange spansSameWrong)

/-- 'pensionlaw2.SpansCount': WHATEVER THE INPUT: true; the input reads as it did. -/
def spansCountSpec : ChangeSpec := { name := "spansCount", fn := fun _ => fun
  | [d1, d2, d3, d4] => { results := [.lit (.bool true)], args := [d1, d2, d3, d4] }
  | _ => none }
def spansCountRow : OpenClaim := { program := "ytjhbicopmgdlcaa", sum := "d77660aead328995ab9437979899be034b6d8c61bdd405c45889943bcc3b7aa8", func := "pension/pensionlaw2.SpansCount", spec := "spansCount", inPlace := ["internal/reflectlite.ValueOf", "internal/reflectlite.Swapper", "(internal/reflectlite.Value).Len"], unfollowed := true, recurses := true, apart := false }
def SpansCountSaid : Prop := spansCountRow.holds Try.pinned (OpenSpec.ofChange spansCountSpec)

/-- ITS FALSE NEIGHBOUR: 'it returns false'. Refute it at one input. -/
def spansCountWrong : ChangeSpec := { name := "spansCount", fn := fun _ => fun
  | [d1, d2, d3, d4] => { results := [.lit (.bool false)], args := [d1, d2, d3, d4] }
  | _ => none }
def SpansCountWrongFalsely : Prop := spansCountRow.holds Try.pinned (OpenSpec.ofChange spansCountWrong)

/-- 'pensionlaw2.SpansRank': WHATEVER THE INPUT: true; the input reads as it did. -/
def spansRankSpec : ChangeSpec := { name := "spansRank", fn := fun _ => fun
  | [d1, d2, d3] => { results := [.lit (.bool true)], args := [d1, d2, d3] }
  | _ => none }
def spansRankRow : OpenClaim := { program := "ytjhbicopmgdlcaa", sum := "d77660aead328995ab9437979899be034b6d8c61bdd405c45889943bcc3b7aa8", func := "pension/pensionlaw2.SpansRank", spec := "spansRank", inPlace := ["internal/reflectlite.ValueOf", "internal/reflectlite.Swapper", "(internal/reflectlite.Value).Len"], unfollowed := true, recurses := true, apart := false }
def SpansRankSaid : Prop := spansRankRow.holds Try.pinned (OpenSpec.ofChange spansRankSpec)

/-- ITS FALSE NEIGHBOUR: 'it returns false'. Refute it at one input. -/
def spansRankWrong : ChangeSpec := { name := "spansRank", fn := fun _ => fun
  | [d1, d2, d3] => { results := [.lit (.bool false)], args := [d1, d2, d3] }
  | _ => none }
def SpansRankWrongFalsely : Prop := spansRankRow.holds Try.pinned (OpenSpec.ofChange spansRankWrong)

/-- 'pensionlaw2.SpansSets': WHATEVER THE INPUT: true; the input reads as it did. -/
def spansSetsSpec : ChangeSpec := { name := "spansSets", fn := fun _ => fun
  | [d1, d2, d3] => { results := [.lit (.bool true)], args := [d1, d2, d3] }
  | _ => none }
def spansSetsRow : OpenClaim := { program := "ytjhbicopmgdlcaa", sum := "d77660aead328995ab9437979899be034b6d8c61bdd405c45889943bcc3b7aa8", func := "pension/pensionlaw2.SpansSets", spec := "spansSets", inPlace := ["internal/reflectlite.ValueOf", "internal/reflectlite.Swapper", "(internal/reflectlite.Value).Len"], unfollowed := true, recurses := true, apart := false }
def SpansSetsSaid : Prop := spansSetsRow.holds Try.pinned (OpenSpec.ofChange spansSetsSpec)

/-- ITS FALSE NEIGHBOUR: 'it returns false'. Refute it at one input. -/
def spansSetsWrong : ChangeSpec := { name := "spansSets", fn := fun _ => fun
  | [d1, d2, d3] => { results := [.lit (.bool false)], args := [d1, d2, d3] }
  | _ => none }
def SpansSetsWrongFalsely : Prop := spansSetsRow.holds Try.pinned (OpenSpec.ofChange spansSetsWrong)

/-- 'pensionlaw2.SpansLattice': WHATEVER THE INPUT: true; the input reads as it did. -/
def spansLatticeSpec : ChangeSpec := { name := "spansLattice", fn := fun _ => fun
  | [d1, d2, d3, d4] => { results := [.lit (.bool true)], args := [d1, d2, d3, d4] }
  | _ => none }
def spansLatticeRow : OpenClaim := { program := "ytjhbicopmgdlcaa", sum := "d77660aead328995ab9437979899be034b6d8c61bdd405c45889943bcc3b7aa8", func := "pension/pensionlaw2.SpansLattice", spec := "spansLattice", inPlace := ["internal/reflectlite.ValueOf", "internal/reflectlite.Swapper", "(internal/reflectlite.Value).Len"], unfollowed := true, recurses := true, apart := false }
def SpansLatticeSaid : Prop := spansLatticeRow.holds Try.pinned (OpenSpec.ofChange spansLatticeSpec)

/-- ITS FALSE NEIGHBOUR: 'it returns false'. Refute it at one input. -/
def spansLatticeWrong : ChangeSpec := { name := "spansLattice", fn := fun _ => fun
  | [d1, d2, d3, d4] => { results := [.lit (.bool false)], args := [d1, d2, d3, d4] }
  | _ => none }
def SpansLatticeWrongFalsely : Prop := spansLatticeRow.holds Try.pinned (OpenSpec.ofChange spansLatticeWrong)

/-- 'pensionlaw2.SpansDay': WHATEVER THE INPUT: true; the input reads as it did. -/
def spansDaySpec : ChangeSpec := { name := "spansDay", fn := fun _ => fun
  | [d1, d2, d3, d4] => { results := [.lit (.bool true)], args := [d1, d2, d3, d4] }
  | _ => none }
def spansDayRow : OpenClaim := { program := "ytjhbicopmgdlcaa", sum := "d77660aead328995ab9437979899be034b6d8c61bdd405c45889943bcc3b7aa8", func := "pension/pensionlaw2.SpansDay", spec := "spansDay", inPlace := ["internal/reflectlite.ValueOf", "internal/reflectlite.Swapper", "(internal/reflectlite.Value).Len"], unfollowed := true, recurses := true, apart := false }
def SpansDaySaid : Prop := spansDayRow.holds Try.pinned (OpenSpec.ofChange spansDaySpec)

/-- ITS FALSE NEIGHBOUR: 'it returns false'. Refute it at one input. -/
def spansDayWrong : ChangeSpec := { name := "spansDay", fn := fun _ => fun
  | [d1, d2, d3, d4] => { results := [.lit (.bool false)], args := [d1, d2, d3, d4] }
  | _ => none }
def SpansDayWrongFalsely : Prop := spansDayRow.holds Try.pinned (OpenSpec.ofChange spansDayWrong)

/-- 'pensionlaw2.SpansPrefix': WHATEVER THE INPUT: true; the input reads as it did. -/
def spansPrefixSpec : ChangeSpec := { name := "spansPrefix", fn := fun _ => fun
  | [d1, d2, d3] => { results := [.lit (.bool true)], args := [d1, d2, d3] }
  | _ => none }
def spansPrefixRow : OpenClaim := { program := "ytjhbicopmgdlcaa", sum := "d77660aead328995ab9437979899be034b6d8c61bdd405c45889943bcc3b7aa8", func := "pension/pensionlaw2.SpansPrefix", spec := "spansPrefix", inPlace := ["internal/reflectlite.ValueOf", "internal/reflectlite.Swapper", "(internal/reflectlite.Value).Len"], unfollowed := true, recurses := true, apart := false }
def SpansPrefixSaid : Prop := spansPrefixRow.holds Try.pinned (OpenSpec.ofChange spansPrefixSpec)

/-- ITS FALSE NEIGHBOUR: 'it returns false'. Refute it at one input. -/
def spansPrefixWrong : ChangeSpec := { name := "spansPrefix", fn := fun _ => fun
  | [d1, d2, d3] => { results := [.lit (.bool false)], args := [d1, d2, d3] }
  | _ => none }
def SpansPrefixWrongFalsely : Prop := spansPrefixRow.holds Try.pinned (OpenSpec.ofChange spansPrefixWrong)

/-- 'pensionlaw2.SpansPieces': WHATEVER THE INPUT: true; the input reads as it did. -/
def spansPiecesSpec : ChangeSpec := { name := "spansPieces", fn := fun _ => fun
  | [d1, d2] => { results := [.lit (.bool true)], args := [d1, d2] }
  | _ => none }
def spansPiecesRow : OpenClaim := { program := "ytjhbicopmgdlcaa", sum := "d77660aead328995ab9437979899be034b6d8c61bdd405c45889943bcc3b7aa8", func := "pension/pensionlaw2.SpansPieces", spec := "spansPieces", inPlace := ["internal/reflectlite.ValueOf", "internal/reflectlite.Swapper", "(internal/reflectlite.Value).Len"], unfollowed := true, recurses := true, apart := false }
def SpansPiecesSaid : Prop := spansPiecesRow.holds Try.pinned (OpenSpec.ofChange spansPiecesSpec)

/-- ITS FALSE NEIGHBOUR: 'it returns false'. Refute it at one input. -/
def spansPiecesWrong : ChangeSpec := { name := "spansPieces", fn := fun _ => fun
  | [d1, d2] => { results := [.lit (.bool false)], args := [d1, d2] }
  | _ => none }
def SpansPiecesWrongFalsely : Prop := spansPiecesRow.holds Try.pinned (OpenSpec.ofChange spansPiecesWrong)

/-- 'pensionlaw2.SpansCover': WHATEVER THE INPUT: true; the input reads as it did. -/
def spansCoverSpec : ChangeSpec := { name := "spansCover", fn := fun _ => fun
  | [d1, d2, d3] => { results := [.lit (.bool true)], args := [d1, d2, d3] }
  | _ => none }
def spansCoverRow : OpenClaim := { program := "ytjhbicopmgdlcaa", sum := "d77660aead328995ab9437979899be034b6d8c61bdd405c45889943bcc3b7aa8", func := "pension/pensionlaw2.SpansCover", spec := "spansCover", inPlace := ["internal/reflectlite.ValueOf", "internal/reflectlite.Swapper", "(internal/reflectlite.Value).Len"], unfollowed := true, recurses := true, apart := false }
def SpansCoverSaid : Prop := spansCoverRow.holds Try.pinned (OpenSpec.ofChange spansCoverSpec)

/-- ITS FALSE NEIGHBOUR: 'it returns false'. Refute it at one input. -/
def spansCoverWrong : ChangeSpec := { name := "spansCover", fn := fun _ => fun
  | [d1, d2, d3] => { results := [.lit (.bool false)], args := [d1, d2, d3] }
  | _ => none }
def SpansCoverWrongFalsely : Prop := spansCoverRow.holds Try.pinned (OpenSpec.ofChange spansCoverWrong)

/- THE SECOND FORM. 'bulk': how many values and letters a reading holds, each counted each time it is reached (what is shared counts as often as it is met; a slice's spare places count too). A statement '..UptoSaid' is the law's where the arguments, and the package variables that the reading takes, are together of bulk at most 1048576: NARROWER than '..Said'. Prove '..Said' where nothing that the law and all that it calls make is longer than what came in: it says more and counts as full. Else prove '..UptoSaid'. A law counts once. -/
mutual
def uptoBulk {H : Type} : DataW H → Nat
  | .lit (.string bytes) => bytes.length + 1
  | .lit _ => 1
  | .nil => 1
  | .ptr d => uptoBulk d + 1
  | .slice elems spare => uptoBulkAll elems + uptoBulkAll spare + 1
  | .agg parts => uptoBulkAll parts + 1
  | .iface _ d => uptoBulk d + 1
  | .map entries => uptoBulkEntries entries + 1
  | .held _ => 1
def uptoBulkAll {H : Type} : List (DataW H) → Nat
  | [] => 0
  | d :: r => uptoBulk d + uptoBulkAll r
def uptoBulkEntries {H : Type} : List (Lit × DataW H) → Nat
  | [] => 0
  | x :: r => uptoBulkEntry x + uptoBulkEntries r
def uptoBulkEntry {H : Type} : Lit × DataW H → Nat
  | (.string bytes, d) => bytes.length + uptoBulk d + 1
  | (_, d) => uptoBulk d + 1
 end
def uptoSmall : (H : Type) → List (DataW H) → Bool := fun _ ds => decide (uptoBulkAll ds ≤ 1048576)
def OpenSpec.upto (s : _root_.Go.ChangeSpec) : _root_.Go.OpenSpec := { _root_.Go.OpenSpec.ofChange s with cond := some uptoSmall }

/-- 'pensionlaw2.SpansMake', WHERE WHAT IT READS IS OF BULK AT MOST 1048576: true; the input reads as it did. -/
def spansMakeUptoRow : OpenClaim := { program := "ytjhbicopmgdlcaa", sum := "d77660aead328995ab9437979899be034b6d8c61bdd405c45889943bcc3b7aa8", func := "pension/pensionlaw2.SpansMake", spec := "spansMake", inPlace := ["internal/reflectlite.ValueOf", "internal/reflectlite.Swapper", "(internal/reflectlite.Value).Len"], unfollowed := true, recurses := true, apart := false, narrowed := true }
def SpansMakeUptoSaid : Prop := spansMakeUptoRow.holds Try.pinned (OpenSpec.upto spansMakeSpec)

/-- 'pensionlaw2.SpansNth', WHERE WHAT IT READS IS OF BULK AT MOST 1048576: true; the input reads as it did. -/
def spansNthUptoRow : OpenClaim := { program := "ytjhbicopmgdlcaa", sum := "d77660aead328995ab9437979899be034b6d8c61bdd405c45889943bcc3b7aa8", func := "pension/pensionlaw2.SpansNth", spec := "spansNth", inPlace := ["internal/reflectlite.ValueOf", "internal/reflectlite.Swapper", "(internal/reflectlite.Value).Len"], unfollowed := true, recurses := true, apart := false, narrowed := true }
def SpansNthUptoSaid : Prop := spansNthUptoRow.holds Try.pinned (OpenSpec.upto spansNthSpec)

/-- 'pensionlaw2.SpansParts', WHERE WHAT IT READS IS OF BULK AT MOST 1048576: true; the input reads as it did. -/
def spansPartsUptoRow : OpenClaim := { program := "ytjhbicopmgdlcaa", sum := "d77660aead328995ab9437979899be034b6d8c61bdd405c45889943bcc3b7aa8", func := "pension/pensionlaw2.SpansParts", spec := "spansParts", inPlace := ["internal/reflectlite.ValueOf", "internal/reflectlite.Swapper", "(internal/reflectlite.Value).Len"], unfollowed := true, recurses := true, apart := false, narrowed := true }
def SpansPartsUptoSaid : Prop := spansPartsUptoRow.holds Try.pinned (OpenSpec.upto spansPartsSpec)

/-- 'pensionlaw2.SpansSame', WHERE WHAT IT READS IS OF BULK AT MOST 1048576: true; the input reads as it did. -/
def spansSameUptoRow : OpenClaim := { program := "ytjhbicopmgdlcaa", sum := "d77660aead328995ab9437979899be034b6d8c61bdd405c45889943bcc3b7aa8", func := "pension/pensionlaw2.SpansSame", spec := "spansSame", inPlace := ["internal/reflectlite.ValueOf", "internal/reflectlite.Swapper", "(internal/reflectlite.Value).Len"], unfollowed := true, recurses := true, apart := false, narrowed := true }
def SpansSameUptoSaid : Prop := spansSameUptoRow.holds Try.pinned (OpenSpec.upto spansSameSpec)

/-- 'pensionlaw2.SpansCount', WHERE WHAT IT READS IS OF BULK AT MOST 1048576: true; the input reads as it did. -/
def spansCountUptoRow : OpenClaim := { program := "ytjhbicopmgdlcaa", sum := "d77660aead328995ab9437979899be034b6d8c61bdd405c45889943bcc3b7aa8", func := "pension/pensionlaw2.SpansCount", spec := "spansCount", inPlace := ["internal/reflectlite.ValueOf", "internal/reflectlite.Swapper", "(internal/reflectlite.Value).Len"], unfollowed := true, recurses := true, apart := false, narrowed := true }
def SpansCountUptoSaid : Prop := spansCountUptoRow.holds Try.pinned (OpenSpec.upto spansCountSpec)

/-- 'pensionlaw2.SpansRank', WHERE WHAT IT READS IS OF BULK AT MOST 1048576: true; the input reads as it did. -/
def spansRankUptoRow : OpenClaim := { program := "ytjhbicopmgdlcaa", sum := "d77660aead328995ab9437979899be034b6d8c61bdd405c45889943bcc3b7aa8", func := "pension/pensionlaw2.SpansRank", spec := "spansRank", inPlace := ["internal/reflectlite.ValueOf", "internal/reflectlite.Swapper", "(internal/reflectlite.Value).Len"], unfollowed := true, recurses := true, apart := false, narrowed := true }
def SpansRankUptoSaid : Prop := spansRankUptoRow.holds Try.pinned (OpenSpec.upto spansRankSpec)

/-- 'pensionlaw2.SpansSets', WHERE WHAT IT READS IS OF BULK AT MOST 1048576: true; the input reads as it did. -/
def spansSetsUptoRow : OpenClaim := { program := "ytjhbicopmgdlcaa", sum := "d77660aead328995ab9437979899be034b6d8c61bdd405c45889943bcc3b7aa8", func := "pension/pensionlaw2.SpansSets", spec := "spansSets", inPlace := ["internal/reflectlite.ValueOf", "internal/reflectlite.Swapper", "(internal/reflectlite.Value).Len"], unfollowed := true, recurses := true, apart := false, narrowed := true }
def SpansSetsUptoSaid : Prop := spansSetsUptoRow.holds Try.pinned (OpenSpec.upto spansSetsSpec)

/-- 'pensionlaw2.SpansLattice', WHERE WHAT IT READS IS OF BULK AT MOST 1048576: true; the input reads as it did. -/
def spansLatticeUptoRow : OpenClaim := { program := "ytjhbicopmgdlcaa", sum := "d77660aead328995ab9437979899be034b6d8c61bdd405c45889943bcc3b7aa8", func := "pension/pensionlaw2.SpansLattice", spec := "spansLattice", inPlace := ["internal/reflectlite.ValueOf", "internal/reflectlite.Swapper", "(internal/reflectlite.Value).Len"], unfollowed := true, recurses := true, apart := false, narrowed := true }
def SpansLatticeUptoSaid : Prop := spansLatticeUptoRow.holds Try.pinned (OpenSpec.upto spansLatticeSpec)

/-- 'pensionlaw2.SpansDay', WHERE WHAT IT READS IS OF BULK AT MOST 1048576: true; the input reads as it did. -/
def spansDayUptoRow : OpenClaim := { program := "ytjhbicopmgdlcaa", sum := "d77660aead328995ab9437979899be034b6d8c61bdd405c45889943bcc3b7aa8", func := "pension/pensionlaw2.SpansDay", spec := "spansDay", inPlace := ["internal/reflectlite.ValueOf", "internal/reflectlite.Swapper", "(internal/reflectlite.Value).Len"], unfollowed := true, recurses := true, apart := false, narrowed := true }
def SpansDayUptoSaid : Prop := spansDayUptoRow.holds Try.pinned (OpenSpec.upto spansDaySpec)

/-- 'pensionlaw2.SpansPrefix', WHERE WHAT IT READS IS OF BULK AT MOST 1048576: true; the input reads as it did. -/
def spansPrefixUptoRow : OpenClaim := { program := "ytjhbicopmgdlcaa", sum := "d77660aead328995ab9437979899be034b6d8c61bdd405c45889943bcc3b7aa8", func := "pension/pensionlaw2.SpansPrefix", spec := "spansPrefix", inPlace := ["internal/reflectlite.ValueOf", "internal/reflectlite.Swapper", "(internal/reflectlite.Value).Len"], unfollowed := true, recurses := true, apart := false, narrowed := true }
def SpansPrefixUptoSaid : Prop := spansPrefixUptoRow.holds Try.pinned (OpenSpec.upto spansPrefixSpec)

/-- 'pensionlaw2.SpansPieces', WHERE WHAT IT READS IS OF BULK AT MOST 1048576: true; the input reads as it did. -/
def spansPiecesUptoRow : OpenClaim := { program := "ytjhbicopmgdlcaa", sum := "d77660aead328995ab9437979899be034b6d8c61bdd405c45889943bcc3b7aa8", func := "pension/pensionlaw2.SpansPieces", spec := "spansPieces", inPlace := ["internal/reflectlite.ValueOf", "internal/reflectlite.Swapper", "(internal/reflectlite.Value).Len"], unfollowed := true, recurses := true, apart := false, narrowed := true }
def SpansPiecesUptoSaid : Prop := spansPiecesUptoRow.holds Try.pinned (OpenSpec.upto spansPiecesSpec)

/-- 'pensionlaw2.SpansCover', WHERE WHAT IT READS IS OF BULK AT MOST 1048576: true; the input reads as it did. -/
def spansCoverUptoRow : OpenClaim := { program := "ytjhbicopmgdlcaa", sum := "d77660aead328995ab9437979899be034b6d8c61bdd405c45889943bcc3b7aa8", func := "pension/pensionlaw2.SpansCover", spec := "spansCover", inPlace := ["internal/reflectlite.ValueOf", "internal/reflectlite.Swapper", "(internal/reflectlite.Value).Len"], unfollowed := true, recurses := true, apart := false, narrowed := true }
def SpansCoverUptoSaid : Prop := spansCoverUptoRow.holds Try.pinned (OpenSpec.upto spansCoverSpec)

end Rows
end Go.Proofs.Ytjhbicopmgdlcaa
