/-
  No cell of these rows narrows 'for every input' (looked for: loops, veiled, ifaces, maps, wideKeys, modest, calm, conditions, laid).
  DERIVED. THE GIVEN ROWS OF THIS SEAT. 7 by the template 'for every input the law returns true; each argument reads behind the call as it read before'; 0 by the template 'total and deterministic' (their statements: YthbpimkbdkjcnaaTotals.lean).
  GIVEN WITH THE SEED: the statements are not yours to turn. If you find one false, say at which input.
  Laid BY PROGRAM, IN A SANDBOX (cutbox-rows.mjs): the forced cells as the released guide's own fill.sh prints them over the translation e20e765fff699830… (all of the seat's roots in one cut). By AI agents, Wed Nov 11 2026. No macro, syntax, notation, axiom, sorry.
-/
import Derived.Test.YthbpimkbdkjcnaaChecked
import GoSem.Claim
import GoSem.ClaimJoined
import GoSem.ClaimMapViews
import Derived.JoinedTies
import Derived.KernelRfl
namespace Go.Proofs.Ythbpimkbdkjcnaa
/- THE CELL 'sum', in the pinned program and in every row, IS THE sha256 OF THE DUMP (.gsa) THAT YthbpimkbdkjcnaaProg.lean LOADS. Nothing in Lean hashes anything: it is a label: what it is worth is what the hold of that sum in a sandbox is worth. -/
noncomputable def Try.pinned : Pinned := { name := "ythbpimkbdkjcnaa", sum := "e20e765fff699830387ddb5c293cd4e06c00b99bb064d59bce030c1548dab96e", checked := Try.checked }
namespace Rows
def none {H : Type} : Left H := { results := [], args := [] }

/-- 'pursebearerlaw25.DedupOnce': WHATEVER THE INPUT: true; the input reads as it did. -/
def dedupOnceSpec : ChangeSpec := { name := "dedupOnce", fn := fun _ => fun
  | [d1, d2] => { results := [.lit (.bool true)], args := [d1, d2] }
  | _ => none }
def dedupOnceRow : OpenClaim := { program := "ythbpimkbdkjcnaa", sum := "e20e765fff699830387ddb5c293cd4e06c00b99bb064d59bce030c1548dab96e", func := "pursebearer/pursebearerlaw25.DedupOnce", spec := "dedupOnce", apart := false }
def DedupOnceSaid : Prop := dedupOnceRow.holds Try.pinned (OpenSpec.ofChange dedupOnceSpec)

/-- ITS FALSE NEIGHBOUR: 'it returns false'. Refute it at one input. -/
def dedupOnceWrong : ChangeSpec := { name := "dedupOnce", fn := fun _ => fun
  | [d1, d2] => { results := [.lit (.bool false)], args := [d1, d2] }
  | _ => none }
def DedupOnceWrongFalsely : Prop := dedupOnceRow.holds Try.pinned (OpenSpec.ofChange dedupOnceWrong)

/-- 'pursebearerlaw25.DedupApart': WHATEVER THE INPUT: true; the input reads as it did. -/
def dedupApartSpec : ChangeSpec := { name := "dedupApart", fn := fun _ => fun
  | [d1, d2, d3] => { results := [.lit (.bool true)], args := [d1, d2, d3] }
  | _ => none }
def dedupApartRow : OpenClaim := { program := "ythbpimkbdkjcnaa", sum := "e20e765fff699830387ddb5c293cd4e06c00b99bb064d59bce030c1548dab96e", func := "pursebearer/pursebearerlaw25.DedupApart", spec := "dedupApart", apart := false }
def DedupApartSaid : Prop := dedupApartRow.holds Try.pinned (OpenSpec.ofChange dedupApartSpec)

/-- ITS FALSE NEIGHBOUR: 'it returns false'. Refute it at one input. -/
def dedupApartWrong : ChangeSpec := { name := "dedupApart", fn := fun _ => fun
  | [d1, d2, d3] => { results := [.lit (.bool false)], args := [d1, d2, d3] }
  | _ => none }
def DedupApartWrongFalsely : Prop := dedupApartRow.holds Try.pinned (OpenSpec.ofChange dedupApartWrong)

/-- 'pursebearerlaw25.DedupPlays': WHATEVER THE INPUT: true; the input reads as it did. -/
def dedupPlaysSpec : ChangeSpec := { name := "dedupPlays", fn := fun _ => fun
  | [d1, d2] => { results := [.lit (.bool true)], args := [d1, d2] }
  | _ => none }
def dedupPlaysRow : OpenClaim := { program := "ythbpimkbdkjcnaa", sum := "e20e765fff699830387ddb5c293cd4e06c00b99bb064d59bce030c1548dab96e", func := "pursebearer/pursebearerlaw25.DedupPlays", spec := "dedupPlays", apart := false }
def DedupPlaysSaid : Prop := dedupPlaysRow.holds Try.pinned (OpenSpec.ofChange dedupPlaysSpec)

/-- ITS FALSE NEIGHBOUR: 'it returns false'. Refute it at one input. -/
def dedupPlaysWrong : ChangeSpec := { name := "dedupPlays", fn := fun _ => fun
  | [d1, d2] => { results := [.lit (.bool false)], args := [d1, d2] }
  | _ => none }
def DedupPlaysWrongFalsely : Prop := dedupPlaysRow.holds Try.pinned (OpenSpec.ofChange dedupPlaysWrong)

/-- 'pursebearerlaw25.DedupEdges': WHATEVER THE INPUT: true; the input reads as it did. -/
def dedupEdgesSpec : ChangeSpec := { name := "dedupEdges", fn := fun _ => fun
  | [d1, d2, d3] => { results := [.lit (.bool true)], args := [d1, d2, d3] }
  | _ => none }
def dedupEdgesRow : OpenClaim := { program := "ythbpimkbdkjcnaa", sum := "e20e765fff699830387ddb5c293cd4e06c00b99bb064d59bce030c1548dab96e", func := "pursebearer/pursebearerlaw25.DedupEdges", spec := "dedupEdges", apart := false }
def DedupEdgesSaid : Prop := dedupEdgesRow.holds Try.pinned (OpenSpec.ofChange dedupEdgesSpec)

/-- ITS FALSE NEIGHBOUR: 'it returns false'. Refute it at one input. -/
def dedupEdgesWrong : ChangeSpec := { name := "dedupEdges", fn := fun _ => fun
  | [d1, d2, d3] => { results := [.lit (.bool false)], args := [d1, d2, d3] }
  | _ => none }
def DedupEdgesWrongFalsely : Prop := dedupEdgesRow.holds Try.pinned (OpenSpec.ofChange dedupEdgesWrong)

/-- 'pursebearerlaw25.DedupAsks': WHATEVER THE INPUT: true; the input reads as it did. -/
def dedupAsksSpec : ChangeSpec := { name := "dedupAsks", fn := fun _ => fun
  | [d1, d2] => { results := [.lit (.bool true)], args := [d1, d2] }
  | _ => none }
def dedupAsksRow : OpenClaim := { program := "ythbpimkbdkjcnaa", sum := "e20e765fff699830387ddb5c293cd4e06c00b99bb064d59bce030c1548dab96e", func := "pursebearer/pursebearerlaw25.DedupAsks", spec := "dedupAsks", apart := false }
def DedupAsksSaid : Prop := dedupAsksRow.holds Try.pinned (OpenSpec.ofChange dedupAsksSpec)

/-- ITS FALSE NEIGHBOUR: 'it returns false'. Refute it at one input. -/
def dedupAsksWrong : ChangeSpec := { name := "dedupAsks", fn := fun _ => fun
  | [d1, d2] => { results := [.lit (.bool false)], args := [d1, d2] }
  | _ => none }
def DedupAsksWrongFalsely : Prop := dedupAsksRow.holds Try.pinned (OpenSpec.ofChange dedupAsksWrong)

/-- 'pursebearerlaw25.DedupSpans': WHATEVER THE INPUT: true; the input reads as it did. -/
def dedupSpansSpec : ChangeSpec := { name := "dedupSpans", fn := fun _ => fun
  | [d1, d2] => { results := [.lit (.bool true)], args := [d1, d2] }
  | _ => none }
def dedupSpansRow : OpenClaim := { program := "ythbpimkbdkjcnaa", sum := "e20e765fff699830387ddb5c293cd4e06c00b99bb064d59bce030c1548dab96e", func := "pursebearer/pursebearerlaw25.DedupSpans", spec := "dedupSpans", apart := false }
def DedupSpansSaid : Prop := dedupSpansRow.holds Try.pinned (OpenSpec.ofChange dedupSpansSpec)

/-- ITS FALSE NEIGHBOUR: 'it returns false'. Refute it at one input. -/
def dedupSpansWrong : ChangeSpec := { name := "dedupSpans", fn := fun _ => fun
  | [d1, d2] => { results := [.lit (.bool false)], args := [d1, d2] }
  | _ => none }
def DedupSpansWrongFalsely : Prop := dedupSpansRow.holds Try.pinned (OpenSpec.ofChange dedupSpansWrong)

/-- 'pursebearerlaw25.DedupGrows': WHATEVER THE INPUT: true; the input reads as it did. -/
def dedupGrowsSpec : ChangeSpec := { name := "dedupGrows", fn := fun _ => fun
  | [d1, d2, d3] => { results := [.lit (.bool true)], args := [d1, d2, d3] }
  | _ => none }
def dedupGrowsRow : OpenClaim := { program := "ythbpimkbdkjcnaa", sum := "e20e765fff699830387ddb5c293cd4e06c00b99bb064d59bce030c1548dab96e", func := "pursebearer/pursebearerlaw25.DedupGrows", spec := "dedupGrows", recurses := true, apart := false }
def DedupGrowsSaid : Prop := dedupGrowsRow.holds Try.pinned (OpenSpec.ofChange dedupGrowsSpec)

/-- ITS FALSE NEIGHBOUR: 'it returns false'. Refute it at one input. -/
def dedupGrowsWrong : ChangeSpec := { name := "dedupGrows", fn := fun _ => fun
  | [d1, d2, d3] => { results := [.lit (.bool false)], args := [d1, d2, d3] }
  | _ => none }
def DedupGrowsWrongFalsely : Prop := dedupGrowsRow.holds Try.pinned (OpenSpec.ofChange dedupGrowsWrong)

/- THE SECOND FORM. 'bulk': how many values and letters a reading holds, each counted each time it is reached (what is shared counts as often as it is met; a slice's spare places count too). A statement '..UptoSaid' is the law's where the arguments, and the package variables that the reading takes, are together of bulk at most 1048576: NARROWER than '..Said'. Prove '..Said' where nothing that the law and all that it calls make is longer than what came in: it says more and counts as full. Else prove '..UptoSaid'. A law counts once. -/
mutual
def uptoBulk {H : Type} : DataW H → Nat
  | .lit (.string bytes) => bytes.length + 1
  | .lit _ => 1
  | .nil => 1
  | .ptr d => uptoBulk d + 1
  | .slice elems spare => uptoBulkAll elems + uptoBulkAll spare + 1
  | .agg parts => uptoBulkAll parts + 1
  | .iface _ d => uptoBulk d + 1
  | .map entries => uptoBulkEntries entries + 1
  | .held _ => 1
def uptoBulkAll {H : Type} : List (DataW H) → Nat
  | [] => 0
  | d :: r => uptoBulk d + uptoBulkAll r
def uptoBulkEntries {H : Type} : List (Lit × DataW H) → Nat
  | [] => 0
  | x :: r => uptoBulkEntry x + uptoBulkEntries r
def uptoBulkEntry {H : Type} : Lit × DataW H → Nat
  | (.string bytes, d) => bytes.length + uptoBulk d + 1
  | (_, d) => uptoBulk d + 1
 end
def uptoSmall : (H : Type) → List (DataW H) → Bool := fun _ ds => decide (uptoBulkAll ds ≤ 1048576)
def OpenSpec.upto (s : _root_.Go.ChangeSpec) : _root_.Go.OpenSpec := { _root_.Go.OpenSpec.ofChange s with cond := some uptoSmall }

/-- 'pursebearerlaw25.DedupOnce', WHERE WHAT IT READS IS OF BULK AT MOST 1048576: true; the input reads as it did. -/
def dedupOnceUptoRow : OpenClaim := { program := "ythbpimkbdkjcnaa", sum := "e20e765fff699830387ddb5c293cd4e06c00b99bb064d59bce030c1548dab96e", func := "pursebearer/pursebearerlaw25.DedupOnce", spec := "dedupOnce", apart := false, narrowed := true }
def DedupOnceUptoSaid : Prop := dedupOnceUptoRow.holds Try.pinned (OpenSpec.upto dedupOnceSpec)

/-- 'pursebearerlaw25.DedupApart', WHERE WHAT IT READS IS OF BULK AT MOST 1048576: true; the input reads as it did. -/
def dedupApartUptoRow : OpenClaim := { program := "ythbpimkbdkjcnaa", sum := "e20e765fff699830387ddb5c293cd4e06c00b99bb064d59bce030c1548dab96e", func := "pursebearer/pursebearerlaw25.DedupApart", spec := "dedupApart", apart := false, narrowed := true }
def DedupApartUptoSaid : Prop := dedupApartUptoRow.holds Try.pinned (OpenSpec.upto dedupApartSpec)

/-- 'pursebearerlaw25.DedupPlays', WHERE WHAT IT READS IS OF BULK AT MOST 1048576: true; the input reads as it did. -/
def dedupPlaysUptoRow : OpenClaim := { program := "ythbpimkbdkjcnaa", sum := "e20e765fff699830387ddb5c293cd4e06c00b99bb064d59bce030c1548dab96e", func := "pursebearer/pursebearerlaw25.DedupPlays", spec := "dedupPlays", apart := false, narrowed := true }
def DedupPlaysUptoSaid : Prop := dedupPlaysUptoRow.holds Try.pinned (OpenSpec.upto dedupPlaysSpec)

/-- 'pursebearerlaw25.DedupEdges', WHERE WHAT IT READS IS OF BULK AT MOST 1048576: true; the input reads as it did. -/
def dedupEdgesUptoRow : OpenClaim := { program := "ythbpimkbdkjcnaa", sum := "e20e765fff699830387ddb5c293cd4e06c00b99bb064d59bce030c1548dab96e", func := "pursebearer/pursebearerlaw25.DedupEdges", spec := "dedupEdges", apart := false, narrowed := true }
def DedupEdgesUptoSaid : Prop := dedupEdgesUptoRow.holds Try.pinned (OpenSpec.upto dedupEdgesSpec)

/-- 'pursebearerlaw25.DedupAsks', WHERE WHAT IT READS IS OF BULK AT MOST 1048576: true; the input reads as it did. -/
def dedupAsksUptoRow : OpenClaim := { program := "ythbpimkbdkjcnaa", sum := "e20e765fff699830387ddb5c293cd4e06c00b99bb064d59bce030c1548dab96e", func := "pursebearer/pursebearerlaw25.DedupAsks", spec := "dedupAsks", apart := false, narrowed := true }
def DedupAsksUptoSaid : Prop := dedupAsksUptoRow.holds Try.pinned (OpenSpec.upto dedupAsksSpec)

/-- 'pursebearerlaw25.DedupSpans', WHERE WHAT IT READS IS OF BULK AT MOST 1048576: true; the input reads as it did. -/
def dedupSpansUptoRow : OpenClaim := { program := "ythbpimkbdkjcnaa", sum := "e20e765fff699830387ddb5c293cd4e06c00b99bb064d59bce030c1548dab96e", func := "pursebearer/pursebearerlaw25.DedupSpans", spec := "dedupSpans", apart := false, narrowed := true }
def DedupSpansUptoSaid : Prop := dedupSpansUptoRow.holds Try.pinned (OpenSpec.upto dedupSpansSpec)

/-- 'pursebearerlaw25.DedupGrows', WHERE WHAT IT READS IS OF BULK AT MOST 1048576: true; the input reads as it did. -/
def dedupGrowsUptoRow : OpenClaim := { program := "ythbpimkbdkjcnaa", sum := "e20e765fff699830387ddb5c293cd4e06c00b99bb064d59bce030c1548dab96e", func := "pursebearer/pursebearerlaw25.DedupGrows", spec := "dedupGrows", recurses := true, apart := false, narrowed := true }
def DedupGrowsUptoSaid : Prop := dedupGrowsUptoRow.holds Try.pinned (OpenSpec.upto dedupGrowsSpec)

end Rows
end Go.Proofs.Ythbpimkbdkjcnaa
