/-
  No cell of these rows narrows 'for every input' (looked for: loops, veiled, ifaces, maps, wideKeys, modest, calm, conditions, laid).
  DERIVED. THE GIVEN ROWS OF THIS SEAT. 4 by the template 'for every input the law returns true; each argument reads behind the call as it read before'; 0 by the template 'total and deterministic' (their statements: YtjknlijikojbmaaTotals.lean).
  GIVEN WITH THE SEED: the statements are not yours to turn. If you find one false, say at which input.
  Laid BY PROGRAM, IN A SANDBOX (cutbox-rows.mjs): the forced cells as the released guide's own fill.sh prints them over the translation cfa119cd5d93d017… (all of the seat's roots in one cut). By AI agents, Wed Nov 11 2026. No macro, syntax, notation, axiom, sorry.
-/
import Derived.Test.YtjknlijikojbmaaChecked
import GoSem.Claim
import GoSem.ClaimJoined
import GoSem.ClaimMapViews
import Derived.JoinedTies
import Derived.KernelRfl
namespace Go.Proofs.Ytjknlijikojbmaa
/- THE CELL 'sum', in the pinned program and in every row, IS THE sha256 OF THE DUMP (.gsa) THAT YtjknlijikojbmaaProg.lean LOADS. Nothing in Lean hashes anything: it is a label: what it is worth is what the hold of that sum in a sandbox is worth. -/
noncomputable def Try.pinned : Pinned := { name := "ytjknlijikojbmaa", sum := "cfa119cd5d93d0178a00b2a5f647f0e9fc3bbac511e6c0568191f5ff41507dfd", checked := Try.checked }
namespace Rows
def none {H : Type} : Left H := { results := [], args := [] }

/-- 'pursebearerlaw15.CertForged': WHATEVER THE INPUT: true; the input reads as it did. -/
def certForgedSpec : ChangeSpec := { name := "certForged", fn := fun _ => fun
  | [d1, d2, d3, d4, d5] => { results := [.lit (.bool true)], args := [d1, d2, d3, d4, d5] }
  | _ => none }
def certForgedRow : OpenClaim := { program := "ytjknlijikojbmaa", sum := "cfa119cd5d93d0178a00b2a5f647f0e9fc3bbac511e6c0568191f5ff41507dfd", func := "pursebearer/pursebearerlaw15.CertForged", spec := "certForged", unfollowed := true, recurses := true, apart := false }
def CertForgedSaid : Prop := certForgedRow.holds Try.pinned (OpenSpec.ofChange certForgedSpec)

/-- ITS FALSE NEIGHBOUR: 'it returns false'. Refute it at one input. -/
def certForgedWrong : ChangeSpec := { name := "certForged", fn := fun _ => fun
  | [d1, d2, d3, d4, d5] => { results := [.lit (.bool false)], args := [d1, d2, d3, d4, d5] }
  | _ => none }
def CertForgedWrongFalsely : Prop := certForgedRow.holds Try.pinned (OpenSpec.ofChange certForgedWrong)

/-- 'pursebearerlaw15.CertOver': WHATEVER THE INPUT: true; the input reads as it did. -/
def certOverSpec : ChangeSpec := { name := "certOver", fn := fun _ => fun
  | [d1, d2, d3] => { results := [.lit (.bool true)], args := [d1, d2, d3] }
  | _ => none }
def certOverRow : OpenClaim := { program := "ytjknlijikojbmaa", sum := "cfa119cd5d93d0178a00b2a5f647f0e9fc3bbac511e6c0568191f5ff41507dfd", func := "pursebearer/pursebearerlaw15.CertOver", spec := "certOver", unfollowed := true, recurses := true, apart := false }
def CertOverSaid : Prop := certOverRow.holds Try.pinned (OpenSpec.ofChange certOverSpec)

/-- ITS FALSE NEIGHBOUR: 'it returns false'. Refute it at one input. -/
def certOverWrong : ChangeSpec := { name := "certOver", fn := fun _ => fun
  | [d1, d2, d3] => { results := [.lit (.bool false)], args := [d1, d2, d3] }
  | _ => none }
def CertOverWrongFalsely : Prop := certOverRow.holds Try.pinned (OpenSpec.ofChange certOverWrong)

/-- 'pursebearerlaw15.CertGone': WHATEVER THE INPUT: true; the input reads as it did. -/
def certGoneSpec : ChangeSpec := { name := "certGone", fn := fun _ => fun
  | [d1, d2, d3] => { results := [.lit (.bool true)], args := [d1, d2, d3] }
  | _ => none }
def certGoneRow : OpenClaim := { program := "ytjknlijikojbmaa", sum := "cfa119cd5d93d0178a00b2a5f647f0e9fc3bbac511e6c0568191f5ff41507dfd", func := "pursebearer/pursebearerlaw15.CertGone", spec := "certGone", unfollowed := true, recurses := true, apart := false }
def CertGoneSaid : Prop := certGoneRow.holds Try.pinned (OpenSpec.ofChange certGoneSpec)

/-- ITS FALSE NEIGHBOUR: 'it returns false'. Refute it at one input. -/
def certGoneWrong : ChangeSpec := { name := "certGone", fn := fun _ => fun
  | [d1, d2, d3] => { results := [.lit (.bool false)], args := [d1, d2, d3] }
  | _ => none }
def CertGoneWrongFalsely : Prop := certGoneRow.holds Try.pinned (OpenSpec.ofChange certGoneWrong)

/-- 'pursebearerlaw15.CertRoots': WHATEVER THE INPUT: true; the input reads as it did. -/
def certRootsSpec : ChangeSpec := { name := "certRoots", fn := fun _ => fun
  | [d1, d2, d3] => { results := [.lit (.bool true)], args := [d1, d2, d3] }
  | _ => none }
def certRootsRow : OpenClaim := { program := "ytjknlijikojbmaa", sum := "cfa119cd5d93d0178a00b2a5f647f0e9fc3bbac511e6c0568191f5ff41507dfd", func := "pursebearer/pursebearerlaw15.CertRoots", spec := "certRoots", unfollowed := true, recurses := true, apart := false }
def CertRootsSaid : Prop := certRootsRow.holds Try.pinned (OpenSpec.ofChange certRootsSpec)

/-- ITS FALSE NEIGHBOUR: 'it returns false'. Refute it at one input. -/
def certRootsWrong : ChangeSpec := { name := "certRoots", fn := fun _ => fun
  | [d1, d2, d3] => { results := [.lit (.bool false)], args := [d1, d2, d3] }
  | _ => none }
def CertRootsWrongFalsely : Prop := certRootsRow.holds Try.pinned (OpenSpec.ofChange certRootsWrong)

/- THE SECOND FORM. 'bulk': how many values and letters a reading holds, each counted each time it is reached (what is shared counts as often as it is met; a slice's spare places count too). A statement '..UptoSaid' is the law's where the arguments, and the package variables that the reading takes, are together of bulk at most 1048576: NARROWER than '..Said'. Prove '..Said' where nothing that the law and all that it calls make is longer than what came in: it says more and counts as full. Else prove '..UptoSaid'. A law counts once. -/
mutual
def uptoBulk {H : Type} : DataW H → Nat
  | .lit (.string bytes) => bytes.length + 1
  | .lit _ => 1
  | .nil => 1
  | .ptr d => uptoBulk d + 1
  | .slice elems spare => uptoBulkAll elems + uptoBulkAll spare + 1
  | .agg parts => uptoBulkAll parts + 1
  | .iface _ d => uptoBulk d + 1
  | .map entries => uptoBulkEntries entries + 1
  | .held _ => 1
def uptoBulkAll {H : Type} : List (DataW H) → Nat
  | [] => 0
  | d :: r => uptoBulk d + uptoBulkAll r
def uptoBulkEntries {H : Type} : List (Lit × DataW H) → Nat
  | [] => 0
  | x :: r => uptoBulkEntry x + uptoBulkEntries r
def uptoBulkEntry {H : Type} : Lit × DataW H → Nat
  | (.string bytes, d) => bytes.length + uptoBulk d + 1
  | (_, d) => uptoBulk d + 1
 end
def uptoSmall : (H : Type) → List (DataW H) → Bool := fun _ ds => decide (uptoBulkAll ds ≤ 1048576)
def OpenSpec.upto (s : _root_.Go.ChangeSpec) : _root_.Go.OpenSpec := { _root_.Go.OpenSpec.ofChange s with cond := some uptoSmall }

/-- 'pursebearerlaw15.CertForged', WHERE WHAT IT READS IS OF BULK AT MOST 1048576: true; the input reads as it did. -/
def certForgedUptoRow : OpenClaim := { program := "ytjknlijikojbmaa", sum := "cfa119cd5d93d0178a00b2a5f647f0e9fc3bbac511e6c0568191f5ff41507dfd", func := "pursebearer/pursebearerlaw15.CertForged", spec := "certForged", unfollowed := true, recurses := true, apart := false, narrowed := true }
def CertForgedUptoSaid : Prop := certForgedUptoRow.holds Try.pinned (OpenSpec.upto certForgedSpec)

/-- 'pursebearerlaw15.CertOver', WHERE WHAT IT READS IS OF BULK AT MOST 1048576: true; the input reads as it did. -/
def certOverUptoRow : OpenClaim := { program := "ytjknlijikojbmaa", sum := "cfa119cd5d93d0178a00b2a5f647f0e9fc3bbac511e6c0568191f5ff41507dfd", func := "pursebearer/pursebearerlaw15.CertOver", spec := "certOver", unfollowed := true, recurses := true, apart := false, narrowed := true }
def CertOverUptoSaid : Prop := certOverUptoRow.holds Try.pinned (OpenSpec.upto certOverSpec)

/-- 'pursebearerlaw15.CertGone', WHERE WHAT IT READS IS OF BULK AT MOST 1048576: true; the input reads as it did. -/
def certGoneUptoRow : OpenClaim := { program := "ytjknlijikojbmaa", sum := "cfa119cd5d93d0178a00b2a5f647f0e9fc3bbac511e6c0568191f5ff41507dfd", func := "pursebearer/pursebearerlaw15.CertGone", spec := "certGone", unfollowed := true, recurses := true, apart := false, narrowed := true }
def CertGoneUptoSaid : Prop := certGoneUptoRow.holds Try.pinned (OpenSpec.upto certGoneSpec)

/-- 'pursebearerlaw15.CertRoots', WHERE WHAT IT READS IS OF BULK AT MOST 1048576: true; the input reads as it did. -/
def certRootsUptoRow : OpenClaim := { program := "ytjknlijikojbmaa", sum := "cfa119cd5d93d0178a00b2a5f647f0e9fc3bbac511e6c0568191f5ff41507dfd", func := "pursebearer/pursebearerlaw15.CertRoots", spec := "certRoots", unfollowed := true, recurses := true, apart := false, narrowed := true }
def CertRootsUptoSaid : Prop := certRootsUptoRow.holds Try.pinned (OpenSpec.upto certRootsSpec)

end Rows
end Go.Proofs.Ytjknlijikojbmaa
