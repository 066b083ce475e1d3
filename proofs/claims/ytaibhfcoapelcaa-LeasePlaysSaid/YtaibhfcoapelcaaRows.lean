/-
  No cell of these rows narrows 'for every input' (looked for: loops, veiled, ifaces, maps, wideKeys, modest, calm, conditions, laid).
  DERIVED. THE GIVEN ROWS OF THIS SEAT. 7 by the template 'for every input the law returns true; each argument reads behind the call as it read before'; 0 by the template 'total and deterministic' (their statements: YtaibhfcoapelcaaTotals.lean).
  GIVEN WITH THE SEED: the statements are not yours to turn. If you find one false, say at which input.
  Laid BY PROGRAM, IN A SANDBOX (cutbox-rows.mjs): the forced cells as the released guide's own fill.sh prints them over the translation 96346cc94c4556cf… (all of the seat's roots in one cut). By AI agents, Wed Nov 11 2026. No macro, syntax, notation, axiom, sorry.
-/
import Derived.Test.YtaibhfcoapelcaaChecked
import GoSem.Claim
import GoSem.ClaimJoined
import GoSem.ClaimMapViews
import Derived.JoinedTies
import Derived.KernelRfl
namespace Go.Proofs.Ytaibhfcoapelcaa
/- THE CELL 'sum', in the pinned program and in every row, IS THE sha256 OF THE DUMP (.gsa) THAT YtaibhfcoapelcaaProg.lean LOADS. Nothing in Lean hashes anything: it is a label: what it is worth is what the hold of that sum in a sandbox is worth. -/
noncomputable def Try.pinned : Pinned := { name := "ytaibhfcoapelcaa", sum := "96346cc94c4556cf93f804397622e1d42a1e6dbfb2e1e67efa45a16e70d3e5b4", checked := Try.checked }
namespace Rows
def none {H : Type} : Left H := { results := [], args := [] }

/-- 'pursebearerlaw24.LeaseSums': WHATEVER THE INPUT: true; the input reads as it did. -/
def leaseSumsSpec : ChangeSpec := { name := "leaseSums", fn := fun _ => fun
  | [d1, d2, d3] => { results := [.lit (.bool true)], args := [d1, d2, d3] }
  | _ => none }
def leaseSumsRow : OpenClaim := { program := "ytaibhfcoapelcaa", sum := "96346cc94c4556cf93f804397622e1d42a1e6dbfb2e1e67efa45a16e70d3e5b4", func := "pursebearer/pursebearerlaw24.LeaseSums", spec := "leaseSums", apart := false }
def LeaseSumsSaid : Prop := leaseSumsRow.holds Try.pinned (OpenSpec.ofChange leaseSumsSpec)

/-- ITS FALSE NEIGHBOUR: 'it returns false'. Refute it at one input. -/
def leaseSumsWrong : ChangeSpec := { name := "leaseSums", fn := fun _ => fun
  | [d1, d2, d3] => { results := [.lit (.bool false)], args := [d1, d2, d3] }
  | _ => none }
def LeaseSumsWrongFalsely : Prop := leaseSumsRow.holds Try.pinned (OpenSpec.ofChange leaseSumsWrong)

/-- 'pursebearerlaw24.LeaseChecks': WHATEVER THE INPUT: true; the input reads as it did. -/
def leaseChecksSpec : ChangeSpec := { name := "leaseChecks", fn := fun _ => fun
  | [d1, d2, d3, d4] => { results := [.lit (.bool true)], args := [d1, d2, d3, d4] }
  | _ => none }
def leaseChecksRow : OpenClaim := { program := "ytaibhfcoapelcaa", sum := "96346cc94c4556cf93f804397622e1d42a1e6dbfb2e1e67efa45a16e70d3e5b4", func := "pursebearer/pursebearerlaw24.LeaseChecks", spec := "leaseChecks", apart := false }
def LeaseChecksSaid : Prop := leaseChecksRow.holds Try.pinned (OpenSpec.ofChange leaseChecksSpec)

/-- ITS FALSE NEIGHBOUR: 'it returns false'. Refute it at one input. -/
def leaseChecksWrong : ChangeSpec := { name := "leaseChecks", fn := fun _ => fun
  | [d1, d2, d3, d4] => { results := [.lit (.bool false)], args := [d1, d2, d3, d4] }
  | _ => none }
def LeaseChecksWrongFalsely : Prop := leaseChecksRow.holds Try.pinned (OpenSpec.ofChange leaseChecksWrong)

/-- 'pursebearerlaw24.LeasePlays': WHATEVER THE INPUT: true; the input reads as it did. -/
def leasePlaysSpec : ChangeSpec := { name := "leasePlays", fn := fun _ => fun
  | [d1, d2, d3] => { results := [.lit (.bool true)], args := [d1, d2, d3] }
  | _ => none }
def leasePlaysRow : OpenClaim := { program := "ytaibhfcoapelcaa", sum := "96346cc94c4556cf93f804397622e1d42a1e6dbfb2e1e67efa45a16e70d3e5b4", func := "pursebearer/pursebearerlaw24.LeasePlays", spec := "leasePlays", apart := false }
def LeasePlaysSaid : Prop := leasePlaysRow.holds Try.pinned (OpenSpec.ofChange leasePlaysSpec)

/-- ITS FALSE NEIGHBOUR: 'it returns false'. Refute it at one input. -/
def leasePlaysWrong : ChangeSpec := { name := "leasePlays", fn := fun _ => fun
  | [d1, d2, d3] => { results := [.lit (.bool false)], args := [d1, d2, d3] }
  | _ => none }
def LeasePlaysWrongFalsely : Prop := leasePlaysRow.holds Try.pinned (OpenSpec.ofChange leasePlaysWrong)

/-- 'pursebearerlaw24.LeaseNever': WHATEVER THE INPUT: true; the input reads as it did. -/
def leaseNeverSpec : ChangeSpec := { name := "leaseNever", fn := fun _ => fun
  | [d1, d2] => { results := [.lit (.bool true)], args := [d1, d2] }
  | _ => none }
def leaseNeverRow : OpenClaim := { program := "ytaibhfcoapelcaa", sum := "96346cc94c4556cf93f804397622e1d42a1e6dbfb2e1e67efa45a16e70d3e5b4", func := "pursebearer/pursebearerlaw24.LeaseNever", spec := "leaseNever", apart := false }
def LeaseNeverSaid : Prop := leaseNeverRow.holds Try.pinned (OpenSpec.ofChange leaseNeverSpec)

/-- ITS FALSE NEIGHBOUR: 'it returns false'. Refute it at one input. -/
def leaseNeverWrong : ChangeSpec := { name := "leaseNever", fn := fun _ => fun
  | [d1, d2] => { results := [.lit (.bool false)], args := [d1, d2] }
  | _ => none }
def LeaseNeverWrongFalsely : Prop := leaseNeverRow.holds Try.pinned (OpenSpec.ofChange leaseNeverWrong)

/-- 'pursebearerlaw24.LeaseApart': WHATEVER THE INPUT: true; the input reads as it did. -/
def leaseApartSpec : ChangeSpec := { name := "leaseApart", fn := fun _ => fun
  | [d1, d2, d3] => { results := [.lit (.bool true)], args := [d1, d2, d3] }
  | _ => none }
def leaseApartRow : OpenClaim := { program := "ytaibhfcoapelcaa", sum := "96346cc94c4556cf93f804397622e1d42a1e6dbfb2e1e67efa45a16e70d3e5b4", func := "pursebearer/pursebearerlaw24.LeaseApart", spec := "leaseApart", apart := false }
def LeaseApartSaid : Prop := leaseApartRow.holds Try.pinned (OpenSpec.ofChange leaseApartSpec)

/-- ITS FALSE NEIGHBOUR: 'it returns false'. Refute it at one input. -/
def leaseApartWrong : ChangeSpec := { name := "leaseApart", fn := fun _ => fun
  | [d1, d2, d3] => { results := [.lit (.bool false)], args := [d1, d2, d3] }
  | _ => none }
def LeaseApartWrongFalsely : Prop := leaseApartRow.holds Try.pinned (OpenSpec.ofChange leaseApartWrong)

/-- 'pursebearerlaw24.LeaseMuch': WHATEVER THE INPUT: true; the input reads as it did. -/
def leaseMuchSpec : ChangeSpec := { name := "leaseMuch", fn := fun _ => fun
  | [d1, d2] => { results := [.lit (.bool true)], args := [d1, d2] }
  | _ => none }
def leaseMuchRow : OpenClaim := { program := "ytaibhfcoapelcaa", sum := "96346cc94c4556cf93f804397622e1d42a1e6dbfb2e1e67efa45a16e70d3e5b4", func := "pursebearer/pursebearerlaw24.LeaseMuch", spec := "leaseMuch", apart := false }
def LeaseMuchSaid : Prop := leaseMuchRow.holds Try.pinned (OpenSpec.ofChange leaseMuchSpec)

/-- ITS FALSE NEIGHBOUR: 'it returns false'. Refute it at one input. -/
def leaseMuchWrong : ChangeSpec := { name := "leaseMuch", fn := fun _ => fun
  | [d1, d2] => { results := [.lit (.bool false)], args := [d1, d2] }
  | _ => none }
def LeaseMuchWrongFalsely : Prop := leaseMuchRow.holds Try.pinned (OpenSpec.ofChange leaseMuchWrong)

/-- 'pursebearerlaw24.LeaseOnes': WHATEVER THE INPUT: true; the input reads as it did. -/
def leaseOnesSpec : ChangeSpec := { name := "leaseOnes", fn := fun _ => fun
  | [d1, d2] => { results := [.lit (.bool true)], args := [d1, d2] }
  | _ => none }
def leaseOnesRow : OpenClaim := { program := "ytaibhfcoapelcaa", sum := "96346cc94c4556cf93f804397622e1d42a1e6dbfb2e1e67efa45a16e70d3e5b4", func := "pursebearer/pursebearerlaw24.LeaseOnes", spec := "leaseOnes", apart := false }
def LeaseOnesSaid : Prop := leaseOnesRow.holds Try.pinned (OpenSpec.ofChange leaseOnesSpec)

/-- ITS FALSE NEIGHBOUR: 'it returns false'. Refute it at one input. -/
def leaseOnesWrong : ChangeSpec := { name := "leaseOnes", fn := fun _ => fun
  | [d1, d2] => { results := [.lit (.bool false)], args := [d1, d2] }
  | _ => none }
def LeaseOnesWrongFalsely : Prop := leaseOnesRow.holds Try.pinned (OpenSpec.ofChange leaseOnesWrong)

/- THE SECOND FORM. 'bulk': how many values and letters a reading holds, each counted each time it is reached (what is shared counts as often as it is met; a slice's spare places count too). A statement '..UptoSaid' is the law's where the arguments, and the package variables that the reading takes, are together of bulk at most 1048576: NARROWER than '..Said'. Prove '..Said' where nothing that the law and all that it calls make is longer than what came in: it says more and counts as full. Else prove '..UptoSaid'. A law counts once. -/
mutual
def uptoBulk {H : Type} : DataW H → Nat
  | .lit (.string bytes) => bytes.length + 1
  | .lit _ => 1
  | .nil => 1
  | .ptr d => uptoBulk d + 1
  | .slice elems spare => uptoBulkAll elems + uptoBulkAll spare + 1
  | .agg parts => uptoBulkAll parts + 1
  | .iface _ d => uptoBulk d + 1
  | .map entries => uptoBulkEntries entries + 1
  | .held _ => 1
def uptoBulkAll {H : Type} : List (DataW H) → Nat
  | [] => 0
  | d :: r => uptoBulk d + uptoBulkAll r
def uptoBulkEntries {H : Type} : List (Lit × DataW H) → Nat
  | [] => 0
  | x :: r => uptoBulkEntry x + uptoBulkEntries r
def uptoBulkEntry {H : Type} : Lit × DataW H → Nat
  | (.string bytes, d) => bytes.length + uptoBulk d + 1
  | (_, d) => uptoBulk d + 1
 end
def uptoSmall : (H : Type) → List (DataW H) → Bool := fun _ ds => decide (uptoBulkAll ds ≤ 1048576)
def OpenSpec.upto (s : _root_.Go.ChangeSpec) : _root_.Go.OpenSpec := { _root_.Go.OpenSpec.ofChange s with cond := some uptoSmall }

/-- 'pursebearerlaw24.LeaseSums', WHERE WHAT IT READS IS OF BULK AT MOST 1048576: true; the input reads as it did. -/
def leaseSumsUptoRow : OpenClaim := { program := "ytaibhfcoapelcaa", sum := "96346cc94c4556cf93f804397622e1d42a1e6dbfb2e1e67efa45a16e70d3e5b4", func := "pursebearer/pursebearerlaw24.LeaseSums", spec := "leaseSums", apart := false, narrowed := true }
def LeaseSumsUptoSaid : Prop := leaseSumsUptoRow.holds Try.pinned (OpenSpec.upto leaseSumsSpec)

/-- 'pursebearerlaw24.LeaseChecks', WHERE WHAT IT READS IS OF BULK AT MOST 1048576: true; the input reads as it did. -/
def leaseChecksUptoRow : OpenClaim := { program := "ytaibhfcoapelcaa", sum := "96346cc94c4556cf93f804397622e1d42a1e6dbfb2e1e67efa45a16e70d3e5b4", func := "pursebearer/pursebearerlaw24.LeaseChecks", spec := "leaseChecks", apart := false, narrowed := true }
def LeaseChecksUptoSaid : Prop := leaseChecksUptoRow.holds Try.pinned (OpenSpec.upto leaseChecksSpec)

/-- 'pursebearerlaw24.LeasePlays', WHERE WHAT IT READS IS OF BULK AT MOST 1048576: true; the input reads as it did. -/
def leasePlaysUptoRow : OpenClaim := { program := "ytaibhfcoapelcaa", sum := "96346cc94c4556cf93f804397622e1d42a1e6dbfb2e1e67efa45a16e70d3e5b4", func := "pursebearer/pursebearerlaw24.LeasePlays", spec := "leasePlays", apart := false, narrowed := true }
def LeasePlaysUptoSaid : Prop := leasePlaysUptoRow.holds Try.pinned (OpenSpec.upto leasePlaysSpec)

/-- 'pursebearerlaw24.LeaseNever', WHERE WHAT IT READS IS OF BULK AT MOST 1048576: true; the input reads as it did. -/
def leaseNeverUptoRow : OpenClaim := { program := "ytaibhfcoapelcaa", sum := "96346cc94c4556cf93f804397622e1d42a1e6dbfb2e1e67efa45a16e70d3e5b4", func := "pursebearer/pursebearerlaw24.LeaseNever", spec := "leaseNever", apart := false, narrowed := true }
def LeaseNeverUptoSaid : Prop := leaseNeverUptoRow.holds Try.pinned (OpenSpec.upto leaseNeverSpec)

/-- 'pursebearerlaw24.LeaseApart', WHERE WHAT IT READS IS OF BULK AT MOST 1048576: true; the input reads as it did. -/
def leaseApartUptoRow : OpenClaim := { program := "ytaibhfcoapelcaa", sum := "96346cc94c4556cf93f804397622e1d42a1e6dbfb2e1e67efa45a16e70d3e5b4", func := "pursebearer/pursebearerlaw24.LeaseApart", spec := "leaseApart", apart := false, narrowed := true }
def LeaseApartUptoSaid : Prop := leaseApartUptoRow.holds Try.pinned (OpenSpec.upto leaseApartSpec)

/-- 'pursebearerlaw24.LeaseMuch', WHERE WHAT IT READS IS OF BULK AT MOST 1048576: true; the input reads as it did. -/
def leaseMuchUptoRow : OpenClaim := { program := "ytaibhfcoapelcaa", sum := "96346cc94c4556cf93f804397622e1d42a1e6dbfb2e1e67efa45a16e70d3e5b4", func := "pursebearer/pursebearerlaw24.LeaseMuch", spec := "leaseMuch", apart := false, narrowed := true }
def LeaseMuchUptoSaid : Prop := leaseMuchUptoRow.holds Try.pinned (OpenSpec.upto leaseMuchSpec)

/-- 'pursebearerlaw24.LeaseOnes', WHERE WHAT IT READS IS OF BULK AT MOST 1048576: true; the input reads as it did. -/
def leaseOnesUptoRow : OpenClaim := { program := "ytaibhfcoapelcaa", sum := "96346cc94c4556cf93f804397622e1d42a1e6dbfb2e1e67efa45a16e70d3e5b4", func := "pursebearer/pursebearerlaw24.LeaseOnes", spec := "leaseOnes", apart := false, narrowed := true }
def LeaseOnesUptoSaid : Prop := leaseOnesUptoRow.holds Try.pinned (OpenSpec.upto leaseOnesSpec)

end Rows
end Go.Proofs.Ytaibhfcoapelcaa
