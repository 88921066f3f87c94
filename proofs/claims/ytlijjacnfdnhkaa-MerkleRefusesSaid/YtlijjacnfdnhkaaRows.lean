/-
  No cell of these rows narrows 'for every input' (looked for: loops, veiled, ifaces, maps, wideKeys, modest, calm, conditions, laid).
  DERIVED. THE GIVEN ROWS OF THIS SEAT. 4 by the template 'for every input the law returns true; each argument reads behind the call as it read before'; 0 by the template 'total and deterministic' (their statements: YtlijjacnfdnhkaaTotals.lean).
  GIVEN WITH THE SEED: the statements are not yours to turn. If you find one false, say at which input.
  Laid BY PROGRAM, IN A SANDBOX (cutbox-rows.mjs): the forced cells as the released guide's own fill.sh prints them over the translation ba72e39e7623f9c3… (all of the seat's roots in one cut). By AI agents, Wed Nov 11 2026. No macro, syntax, notation, axiom, sorry.
-/
import Derived.Test.YtlijjacnfdnhkaaChecked
import GoSem.Claim
import GoSem.ClaimJoined
import GoSem.ClaimMapViews
import Derived.JoinedTies
import Derived.KernelRfl
namespace Go.Proofs.Ytlijjacnfdnhkaa
/- THE CELL 'sum', in the pinned program and in every row, IS THE sha256 OF THE DUMP (.gsa) THAT YtlijjacnfdnhkaaProg.lean LOADS. Nothing in Lean hashes anything: it is a label: what it is worth is what the hold of that sum in a sandbox is worth. -/
noncomputable def Try.pinned : Pinned := { name := "ytlijjacnfdnhkaa", sum := "ba72e39e7623f9c350c7c51acfc2947aff2527ac0646c0d77296b83e29c6cd02", checked := Try.checked }
namespace Rows
def none {H : Type} : Left H := { results := [], args := [] }

/-- 'mempoollaw6.MerkleRoots': WHATEVER THE INPUT: true; the input reads as it did. -/
def merkleRootsSpec : ChangeSpec := { name := "merkleRoots", fn := fun _ => fun
  | [d1, d2, d3, d4, d5] => { results := [.lit (.bool true)], args := [d1, d2, d3, d4, d5] }
  | _ => none }
def merkleRootsRow : OpenClaim := { program := "ytlijjacnfdnhkaa", sum := "ba72e39e7623f9c350c7c51acfc2947aff2527ac0646c0d77296b83e29c6cd02", func := "mempool/mempoollaw6.MerkleRoots", spec := "merkleRoots", recurses := true, apart := false }
def MerkleRootsSaid : Prop := merkleRootsRow.holds Try.pinned (OpenSpec.ofChange merkleRootsSpec)

/-- ITS FALSE NEIGHBOUR: 'it returns false'. Refute it at one input. -/
def merkleRootsWrong : ChangeSpec := { name := "merkleRoots", fn := fun _ => fun
  | [d1, d2, d3, d4, d5] => { results := [.lit (.bool false)], args := [d1, d2, d3, d4, d5] }
  | _ => none }
def MerkleRootsWrongFalsely : Prop := merkleRootsRow.holds Try.pinned (OpenSpec.ofChange merkleRootsWrong)

/-- 'mempoollaw6.MerkleProofs': WHATEVER THE INPUT: true; the input reads as it did. -/
def merkleProofsSpec : ChangeSpec := { name := "merkleProofs", fn := fun _ => fun
  | [d1, d2, d3, d4, d5] => { results := [.lit (.bool true)], args := [d1, d2, d3, d4, d5] }
  | _ => none }
def merkleProofsRow : OpenClaim := { program := "ytlijjacnfdnhkaa", sum := "ba72e39e7623f9c350c7c51acfc2947aff2527ac0646c0d77296b83e29c6cd02", func := "mempool/mempoollaw6.MerkleProofs", spec := "merkleProofs", recurses := true, apart := false }
def MerkleProofsSaid : Prop := merkleProofsRow.holds Try.pinned (OpenSpec.ofChange merkleProofsSpec)

/-- ITS FALSE NEIGHBOUR: 'it returns false'. Refute it at one input. -/
def merkleProofsWrong : ChangeSpec := { name := "merkleProofs", fn := fun _ => fun
  | [d1, d2, d3, d4, d5] => { results := [.lit (.bool false)], args := [d1, d2, d3, d4, d5] }
  | _ => none }
def MerkleProofsWrongFalsely : Prop := merkleProofsRow.holds Try.pinned (OpenSpec.ofChange merkleProofsWrong)

/-- 'mempoollaw6.MerkleVerifies': WHATEVER THE INPUT: true; the input reads as it did. -/
def merkleVerifiesSpec : ChangeSpec := { name := "merkleVerifies", fn := fun _ => fun
  | [d1, d2] => { results := [.lit (.bool true)], args := [d1, d2] }
  | _ => none }
def merkleVerifiesRow : OpenClaim := { program := "ytlijjacnfdnhkaa", sum := "ba72e39e7623f9c350c7c51acfc2947aff2527ac0646c0d77296b83e29c6cd02", func := "mempool/mempoollaw6.MerkleVerifies", spec := "merkleVerifies", recurses := true, apart := false }
def MerkleVerifiesSaid : Prop := merkleVerifiesRow.holds Try.pinned (OpenSpec.ofChange merkleVerifiesSpec)

/-- ITS FALSE NEIGHBOUR: 'it returns false'. Refute it at one input. -/
def merkleVerifiesWrong : ChangeSpec := { name := "merkleVerifies", fn := fun _ => fun
  | [d1, d2] => { results := [.lit (.bool false)], args := [d1, d2] }
  | _ => none }
def MerkleVerifiesWrongFalsely : Prop := merkleVerifiesRow.holds Try.pinned (OpenSpec.ofChange merkleVerifiesWrong)

/-- 'mempoollaw6.MerkleRefuses': WHATEVER THE INPUT: true; the input reads as it did. -/
def merkleRefusesSpec : ChangeSpec := { name := "merkleRefuses", fn := fun _ => fun
  | [d1, d2, d3, d4, d5, d6, d7] => { results := [.lit (.bool true)], args := [d1, d2, d3, d4, d5, d6, d7] }
  | _ => none }
def merkleRefusesRow : OpenClaim := { program := "ytlijjacnfdnhkaa", sum := "ba72e39e7623f9c350c7c51acfc2947aff2527ac0646c0d77296b83e29c6cd02", func := "mempool/mempoollaw6.MerkleRefuses", spec := "merkleRefuses", recurses := true, apart := false }
def MerkleRefusesSaid : Prop := merkleRefusesRow.holds Try.pinned (OpenSpec.ofChange merkleRefusesSpec)

/-- ITS FALSE NEIGHBOUR: 'it returns false'. Refute it at one input. -/
def merkleRefusesWrong : ChangeSpec := { name := "merkleRefuses", fn := fun _ => fun
  | [d1, d2, d3, d4, d5, d6, d7] => { results := [.lit (.bool false)], args := [d1, d2, d3, d4, d5, d6, d7] }
  | _ => none }
def MerkleRefusesWrongFalsely : Prop := merkleRefusesRow.holds Try.pinned (OpenSpec.ofChange merkleRefusesWrong)

/- THE SECOND FORM. 'bulk': how many values and letters a reading holds, each counted each time it is reached (what is shared counts as often as it is met; a slice's spare places count too). A statement '..UptoSaid' is the law's where the arguments, and the package variables that the reading takes, are together of bulk at most 1048576: NARROWER than '..Said'. Prove '..Said' where nothing that the law and all that it calls make is longer than what came in: it says more and counts as full. Else prove '..UptoSaid'. A law counts once. -/
mutual
def uptoBulk {H : Type} : DataW H → Nat
  | .lit (.string bytes) => bytes.length + 1
  | .lit _ => 1
  | .nil => 1
  | .ptr d => uptoBulk d + 1
  | .slice elems spare => uptoBulkAll elems + uptoBulkAll spare + 1
  | .agg parts => uptoBulkAll parts + 1
  | .iface _ d => uptoBulk d + 1
  | .map entries => uptoBulkEntries entries + 1
  | .held _ => 1
def uptoBulkAll {H : Type} : List (DataW H) → Nat
  | [] => 0
  | d :: r => uptoBulk d + uptoBulkAll r
def uptoBulkEntries {H : Type} : List (Lit × DataW H) → Nat
  | [] => 0
  | x :: r => uptoBulkEntry x + uptoBulkEntries r
def uptoBulkEntry {H : Type} : Lit × DataW H → Nat
  | (.string bytes, d) => bytes.length + uptoBulk d + 1
  | (_, d) => uptoBulk d + 1
 end
def uptoSmall : (H : Type) → List (DataW H) → Bool := fun _ ds => decide (uptoBulkAll ds ≤ 1048576)
def OpenSpec.upto (s : _root_.Go.ChangeSpec) : _root_.Go.OpenSpec := { _root_.Go.OpenSpec.ofChange s with cond := some uptoSmall }

/-- 'mempoollaw6.MerkleRoots', WHERE WHAT IT READS IS OF BULK AT MOST 1048576: true; the input reads as it did. -/
def merkleRootsUptoRow : OpenClaim := { program := "ytlijjacnfdnhkaa", sum := "ba72e39e7623f9c350c7c51acfc2947aff2527ac0646c0d77296b83e29c6cd02", func := "mempool/mempoollaw6.MerkleRoots", spec := "merkleRoots", recurses := true, apart := false, narrowed := true }
def MerkleRootsUptoSaid : Prop := merkleRootsUptoRow.holds Try.pinned (OpenSpec.upto merkleRootsSpec)

/-- 'mempoollaw6.MerkleProofs', WHERE WHAT IT READS IS OF BULK AT MOST 1048576: true; the input reads as it did. -/
def merkleProofsUptoRow : OpenClaim := { program := "ytlijjacnfdnhkaa", sum := "ba72e39e7623f9c350c7c51acfc2947aff2527ac0646c0d77296b83e29c6cd02", func := "mempool/mempoollaw6.MerkleProofs", spec := "merkleProofs", recurses := true, apart := false, narrowed := true }
def MerkleProofsUptoSaid : Prop := merkleProofsUptoRow.holds Try.pinned (OpenSpec.upto merkleProofsSpec)

/-- 'mempoollaw6.MerkleVerifies', WHERE WHAT IT READS IS OF BULK AT MOST 1048576: true; the input reads as it did. -/
def merkleVerifiesUptoRow : OpenClaim := { program := "ytlijjacnfdnhkaa", sum := "ba72e39e7623f9c350c7c51acfc2947aff2527ac0646c0d77296b83e29c6cd02", func := "mempool/mempoollaw6.MerkleVerifies", spec := "merkleVerifies", recurses := true, apart := false, narrowed := true }
def MerkleVerifiesUptoSaid : Prop := merkleVerifiesUptoRow.holds Try.pinned (OpenSpec.upto merkleVerifiesSpec)

/-- 'mempoollaw6.MerkleRefuses', WHERE WHAT IT READS IS OF BULK AT MOST 1048576: true; the input reads as it did. -/
def merkleRefusesUptoRow : OpenClaim := { program := "ytlijjacnfdnhkaa", sum := "ba72e39e7623f9c350c7c51acfc2947aff2527ac0646c0d77296b83e29c6cd02", func := "mempool/mempoollaw6.MerkleRefuses", spec := "merkleRefuses", recurses := true, apart := false, narrowed := true }
def MerkleRefusesUptoSaid : Prop := merkleRefusesUptoRow.holds Try.pinned (OpenSpec.upto merkleRefusesSpec)

end Rows
end Go.Proofs.Ytlijjacnfdnhkaa
