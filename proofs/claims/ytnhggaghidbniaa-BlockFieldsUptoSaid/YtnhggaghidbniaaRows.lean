/-
  No cell of these rows narrows 'for every input' (looked for: loops, veiled, ifaces, maps, wideKeys, modest, calm, conditions, laid).
  DERIVED. THE GIVEN ROWS OF THIS SEAT. 5 by the template 'for every input the law returns true; each argument reads behind the call as it read before'; 0 by the template 'total and deterministic' (their statements: YtnhggaghidbniaaTotals.lean).
  GIVEN WITH THE SEED: the statements are not yours to turn. If you find one false, say at which input.
  Laid BY PROGRAM, IN A SANDBOX (cutbox-rows.mjs): the forced cells as the released guide's own fill.sh prints them over the translation 59cc662642549cd7… (all of the seat's roots in one cut). By AI agents, Wed Nov 11 2026. No macro, syntax, notation, axiom, sorry.
-/
import Derived.Test.YtnhggaghidbniaaChecked
import GoSem.Claim
import GoSem.ClaimJoined
import GoSem.ClaimMapViews
import Derived.JoinedTies
import Derived.KernelRfl
namespace Go.Proofs.Ytnhggaghidbniaa
/- THE CELL 'sum', in the pinned program and in every row, IS THE sha256 OF THE DUMP (.gsa) THAT YtnhggaghidbniaaProg.lean LOADS. Nothing in Lean hashes anything: it is a label: what it is worth is what the hold of that sum in a sandbox is worth. -/
noncomputable def Try.pinned : Pinned := { name := "ytnhggaghidbniaa", sum := "59cc662642549cd78c3b4c44f79c9856f77bb8b5805e92fac60724b8380926c9", checked := Try.checked }
namespace Rows
def none {H : Type} : Left H := { results := [], args := [] }

/-- 'mempoollaw25.BlockEncodes': WHATEVER THE INPUT: true; the input reads as it did. -/
def blockEncodesSpec : ChangeSpec := { name := "blockEncodes", fn := fun _ => fun
  | [d1, d2] => { results := [.lit (.bool true)], args := [d1, d2] }
  | _ => none }
def blockEncodesRow : OpenClaim := { program := "ytnhggaghidbniaa", sum := "59cc662642549cd78c3b4c44f79c9856f77bb8b5805e92fac60724b8380926c9", func := "mempool/mempoollaw25.BlockEncodes", spec := "blockEncodes", recurses := true, apart := false }
def BlockEncodesSaid : Prop := blockEncodesRow.holds Try.pinned (OpenSpec.ofChange blockEncodesSpec)

/-- ITS FALSE NEIGHBOUR: 'it returns false'. Refute it at one input. -/
def blockEncodesWrong : ChangeSpec := { name := "blockEncodes", fn := fun _ => fun
  | [d1, d2] => { results := [.lit (.bool false)], args := [d1, d2] }
  | _ => none }
def BlockEncodesWrongFalsely : Prop := blockEncodesRow.holds Try.pinned (OpenSpec.ofChange blockEncodesWrong)

/-- 'mempoollaw25.BlockDecodes': WHATEVER THE INPUT: true; the input reads as it did. -/
def blockDecodesSpec : ChangeSpec := { name := "blockDecodes", fn := fun _ => fun
  | [d1, d2, d3, d4, d5, d6] => { results := [.lit (.bool true)], args := [d1, d2, d3, d4, d5, d6] }
  | _ => none }
def blockDecodesRow : OpenClaim := { program := "ytnhggaghidbniaa", sum := "59cc662642549cd78c3b4c44f79c9856f77bb8b5805e92fac60724b8380926c9", func := "mempool/mempoollaw25.BlockDecodes", spec := "blockDecodes", recurses := true, apart := false }
def BlockDecodesSaid : Prop := blockDecodesRow.holds Try.pinned (OpenSpec.ofChange blockDecodesSpec)

/-- ITS FALSE NEIGHBOUR: 'it returns false'. Refute it at one input. -/
def blockDecodesWrong : ChangeSpec := { name := "blockDecodes", fn := fun _ => fun
  | [d1, d2, d3, d4, d5, d6] => { results := [.lit (.bool false)], args := [d1, d2, d3, d4, d5, d6] }
  | _ => none }
def BlockDecodesWrongFalsely : Prop := blockDecodesRow.holds Try.pinned (OpenSpec.ofChange blockDecodesWrong)

/-- 'mempoollaw25.BlockFields': WHATEVER THE INPUT: true; the input reads as it did. -/
def blockFieldsSpec : ChangeSpec := { name := "blockFields", fn := fun _ => fun
  | [d1, d2, d3, d4] => { results := [.lit (.bool true)], args := [d1, d2, d3, d4] }
  | _ => none }
def blockFieldsRow : OpenClaim := { program := "ytnhggaghidbniaa", sum := "59cc662642549cd78c3b4c44f79c9856f77bb8b5805e92fac60724b8380926c9", func := "mempool/mempoollaw25.BlockFields", spec := "blockFields", recurses := true, apart := false }
def BlockFieldsSaid : Prop := blockFieldsRow.holds Try.pinned (OpenSpec.ofChange blockFieldsSpec)

/-- ITS FALSE NEIGHBOUR: 'it returns false'. Refute it at one input. -/
def blockFieldsWrong : ChangeSpec := { name := "blockFields", fn := fun _ => fun
  | [d1, d2, d3, d4] => { results := [.lit (.bool false)], args := [d1, d2, d3, d4] }
  | _ => none }
def BlockFieldsWrongFalsely : Prop := blockFieldsRow.holds Try.pinned (OpenSpec.ofChange blockFieldsWrong)

/-- 'mempoollaw25.BlockHashes': WHATEVER THE INPUT: true; the input reads as it did. -/
def blockHashesSpec : ChangeSpec := { name := "blockHashes", fn := fun _ => fun
  | [d1, d2] => { results := [.lit (.bool true)], args := [d1, d2] }
  | _ => none }
def blockHashesRow : OpenClaim := { program := "ytnhggaghidbniaa", sum := "59cc662642549cd78c3b4c44f79c9856f77bb8b5805e92fac60724b8380926c9", func := "mempool/mempoollaw25.BlockHashes", spec := "blockHashes", recurses := true, apart := false }
def BlockHashesSaid : Prop := blockHashesRow.holds Try.pinned (OpenSpec.ofChange blockHashesSpec)

/-- ITS FALSE NEIGHBOUR: 'it returns false'. Refute it at one input. -/
def blockHashesWrong : ChangeSpec := { name := "blockHashes", fn := fun _ => fun
  | [d1, d2] => { results := [.lit (.bool false)], args := [d1, d2] }
  | _ => none }
def BlockHashesWrongFalsely : Prop := blockHashesRow.holds Try.pinned (OpenSpec.ofChange blockHashesWrong)

/-- 'mempoollaw25.BlockLimits': WHATEVER THE INPUT: true; the input reads as it did. -/
def blockLimitsSpec : ChangeSpec := { name := "blockLimits", fn := fun _ => fun
  | [d] => { results := [.lit (.bool true)], args := [d] }
  | _ => none }
def blockLimitsRow : OpenClaim := { program := "ytnhggaghidbniaa", sum := "59cc662642549cd78c3b4c44f79c9856f77bb8b5805e92fac60724b8380926c9", func := "mempool/mempoollaw25.BlockLimits", spec := "blockLimits", recurses := true, apart := false }
def BlockLimitsSaid : Prop := blockLimitsRow.holds Try.pinned (OpenSpec.ofChange blockLimitsSpec)

/-- ITS FALSE NEIGHBOUR: 'it returns false'. Refute it at one input. -/
def blockLimitsWrong : ChangeSpec := { name := "blockLimits", fn := fun _ => fun
  | [d] => { results := [.lit (.bool false)], args := [d] }
  | _ => none }
def BlockLimitsWrongFalsely : Prop := blockLimitsRow.holds Try.pinned (OpenSpec.ofChange blockLimitsWrong)

/- THE SECOND FORM. 'bulk': how many values and letters a reading holds, each counted each time it is reached (what is shared counts as often as it is met; a slice's spare places count too). A statement '..UptoSaid' is the law's where the arguments, and the package variables that the reading takes, are together of bulk at most 1048576: NARROWER than '..Said'. Prove '..Said' where nothing that the law and all that it calls make is longer than what came in: it says more and counts as full. Else prove '..UptoSaid'. A law counts once. -/
mutual
def uptoBulk {H : Type} : DataW H → Nat
  | .lit (.string bytes) => bytes.length + 1
  | .lit _ => 1
  | .nil => 1
  | .ptr d => uptoBulk d + 1
  | .slice elems spare => uptoBulkAll elems + uptoBulkAll spare + 1
  | .agg parts => uptoBulkAll parts + 1
  | .iface _ d => uptoBulk d + 1
  | .map entries => uptoBulkEntries entries + 1
  | .held _ => 1
def uptoBulkAll {H : Type} : List (DataW H) → Nat
  | [] => 0
  | d :: r => uptoBulk d + uptoBulkAll r
def uptoBulkEntries {H : Type} : List (Lit × DataW H) → Nat
  | [] => 0
  | x :: r => uptoBulkEntry x + uptoBulkEntries r
def uptoBulkEntry {H : Type} : Lit × DataW H → Nat
  | (.string bytes, d) => bytes.length + uptoBulk d + 1
  | (_, d) => uptoBulk d + 1
 end
def uptoSmall : (H : Type) → List (DataW H) → Bool := fun _ ds => decide (uptoBulkAll ds ≤ 1048576)
def OpenSpec.upto (s : _root_.Go.ChangeSpec) : _root_.Go.OpenSpec := { _root_.Go.OpenSpec.ofChange s with cond := some uptoSmall }

/-- 'mempoollaw25.BlockEncodes', WHERE WHAT IT READS IS OF BULK AT MOST 1048576: true; the input reads as it did. -/
def blockEncodesUptoRow : OpenClaim := { program := "ytnhggaghidbniaa", sum := "59cc662642549cd78c3b4c44f79c9856f77bb8b5805e92fac60724b8380926c9", func := "mempool/mempoollaw25.BlockEncodes", spec := "blockEncodes", recurses := true, apart := false, narrowed := true }
def BlockEncodesUptoSaid : Prop := blockEncodesUptoRow.holds Try.pinned (OpenSpec.upto blockEncodesSpec)

/-- 'mempoollaw25.BlockDecodes', WHERE WHAT IT READS IS OF BULK AT MOST 1048576: true; the input reads as it did. -/
def blockDecodesUptoRow : OpenClaim := { program := "ytnhggaghidbniaa", sum := "59cc662642549cd78c3b4c44f79c9856f77bb8b5805e92fac60724b8380926c9", func := "mempool/mempoollaw25.BlockDecodes", spec := "blockDecodes", recurses := true, apart := false, narrowed := true }
def BlockDecodesUptoSaid : Prop := blockDecodesUptoRow.holds Try.pinned (OpenSpec.upto blockDecodesSpec)

/-- 'mempoollaw25.BlockFields', WHERE WHAT IT READS IS OF BULK AT MOST 1048576: true; the input reads as it did. -/
def blockFieldsUptoRow : OpenClaim := { program := "ytnhggaghidbniaa", sum := "59cc662642549cd78c3b4c44f79c9856f77bb8b5805e92fac60724b8380926c9", func := "mempool/mempoollaw25.BlockFields", spec := "blockFields", recurses := true, apart := false, narrowed := true }
def BlockFieldsUptoSaid : Prop := blockFieldsUptoRow.holds Try.pinned (OpenSpec.upto blockFieldsSpec)

/-- 'mempoollaw25.BlockHashes', WHERE WHAT IT READS IS OF BULK AT MOST 1048576: true; the input reads as it did. -/
def blockHashesUptoRow : OpenClaim := { program := "ytnhggaghidbniaa", sum := "59cc662642549cd78c3b4c44f79c9856f77bb8b5805e92fac60724b8380926c9", func := "mempool/mempoollaw25.BlockHashes", spec := "blockHashes", recurses := true, apart := false, narrowed := true }
def BlockHashesUptoSaid : Prop := blockHashesUptoRow.holds Try.pinned (OpenSpec.upto blockHashesSpec)

/-- 'mempoollaw25.BlockLimits', WHERE WHAT IT READS IS OF BULK AT MOST 1048576: true; the input reads as it did. -/
def blockLimitsUptoRow : OpenClaim := { program := "ytnhggaghidbniaa", sum := "59cc662642549cd78c3b4c44f79c9856f77bb8b5805e92fac60724b8380926c9", func := "mempool/mempoollaw25.BlockLimits", spec := "blockLimits", recurses := true, apart := false, narrowed := true }
def BlockLimitsUptoSaid : Prop := blockLimitsUptoRow.holds Try.pinned (OpenSpec.upto blockLimitsSpec)

end Rows
end Go.Proofs.Ytnhggaghidbniaa
