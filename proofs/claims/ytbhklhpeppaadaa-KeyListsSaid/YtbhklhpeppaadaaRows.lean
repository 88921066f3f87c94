/-
  No cell of these rows narrows 'for every input' (looked for: loops, veiled, ifaces, maps, wideKeys, modest, calm, conditions, laid).
  DERIVED. THE GIVEN ROWS OF THIS SEAT. 4 by the template 'for every input the law returns true; each argument reads behind the call as it read before'; 0 by the template 'total and deterministic' (their statements: YtbhklhpeppaadaaTotals.lean).
  GIVEN WITH THE SEED: the statements are not yours to turn. If you find one false, say at which input.
  Laid BY PROGRAM, IN A SANDBOX (cutbox-rows.mjs): the forced cells as the released guide's own fill.sh prints them over the translation 2f76b26ebce08e70… (all of the seat's roots in one cut). By AI agents, Wed Nov 11 2026. No macro, syntax, notation, axiom, sorry.
-/
import Derived.Test.YtbhklhpeppaadaaChecked
import GoSem.Claim
import GoSem.ClaimJoined
import GoSem.ClaimMapViews
import Derived.JoinedTies
import Derived.KernelRfl
namespace Go.Proofs.Ytbhklhpeppaadaa
/- THE CELL 'sum', in the pinned program and in every row, IS THE sha256 OF THE DUMP (.gsa) THAT YtbhklhpeppaadaaProg.lean LOADS. Nothing in Lean hashes anything: it is a label: what it is worth is what the hold of that sum in a sandbox is worth. -/
noncomputable def Try.pinned : Pinned := { name := "ytbhklhpeppaadaa", sum := "2f76b26ebce08e70379d1ee4999cd66282ccc0d5676ad6f830ac6b2e0093c360", checked := Try.checked }
namespace Rows
def none {H : Type} : Left H := { results := [], args := [] }

/-- 'mempoollaw5.KeyOf': WHATEVER THE INPUT: true; the input reads as it did. -/
def keyOfSpec : ChangeSpec := { name := "keyOf", fn := fun _ => fun
  | [d] => { results := [.lit (.bool true)], args := [d] }
  | _ => none }
def keyOfRow : OpenClaim := { program := "ytbhklhpeppaadaa", sum := "2f76b26ebce08e70379d1ee4999cd66282ccc0d5676ad6f830ac6b2e0093c360", func := "mempool/mempoollaw5.KeyOf", spec := "keyOf", inPlace := ["internal/abi.NoEscape", "internal/bytealg.IndexByteString", "internal/bytealg.Compare"], plainKeys := false, apart := false }
def KeyOfSaid : Prop := keyOfRow.holds Try.pinned (OpenSpec.ofChange keyOfSpec)

/-- ITS FALSE NEIGHBOUR: 'it returns false'. Refute it at one input. -/
def keyOfWrong : ChangeSpec := { name := "keyOf", fn := fun _ => fun
  | [d] => { results := [.lit (.bool false)], args := [d] }
  | _ => none }
def KeyOfWrongFalsely : Prop := keyOfRow.holds Try.pinned (OpenSpec.ofChange keyOfWrong)

/-- 'mempoollaw5.KeyCompares': WHATEVER THE INPUT: true; the input reads as it did. -/
def keyComparesSpec : ChangeSpec := { name := "keyCompares", fn := fun _ => fun
  | [d1, d2, d3, d4] => { results := [.lit (.bool true)], args := [d1, d2, d3, d4] }
  | _ => none }
def keyComparesRow : OpenClaim := { program := "ytbhklhpeppaadaa", sum := "2f76b26ebce08e70379d1ee4999cd66282ccc0d5676ad6f830ac6b2e0093c360", func := "mempool/mempoollaw5.KeyCompares", spec := "keyCompares", inPlace := ["internal/bytealg.Compare", "internal/abi.NoEscape", "internal/bytealg.IndexByteString"], plainKeys := false, apart := false }
def KeyComparesSaid : Prop := keyComparesRow.holds Try.pinned (OpenSpec.ofChange keyComparesSpec)

/-- ITS FALSE NEIGHBOUR: 'it returns false'. Refute it at one input. -/
def keyComparesWrong : ChangeSpec := { name := "keyCompares", fn := fun _ => fun
  | [d1, d2, d3, d4] => { results := [.lit (.bool false)], args := [d1, d2, d3, d4] }
  | _ => none }
def KeyComparesWrongFalsely : Prop := keyComparesRow.holds Try.pinned (OpenSpec.ofChange keyComparesWrong)

/-- 'mempoollaw5.KeyTexts': WHATEVER THE INPUT: true; the input reads as it did. -/
def keyTextsSpec : ChangeSpec := { name := "keyTexts", fn := fun _ => fun
  | [d1, d2, d3, d4, d5] => { results := [.lit (.bool true)], args := [d1, d2, d3, d4, d5] }
  | _ => none }
def keyTextsRow : OpenClaim := { program := "ytbhklhpeppaadaa", sum := "2f76b26ebce08e70379d1ee4999cd66282ccc0d5676ad6f830ac6b2e0093c360", func := "mempool/mempoollaw5.KeyTexts", spec := "keyTexts", inPlace := ["internal/abi.NoEscape", "internal/bytealg.IndexByteString", "internal/bytealg.Compare"], plainKeys := false, apart := false }
def KeyTextsSaid : Prop := keyTextsRow.holds Try.pinned (OpenSpec.ofChange keyTextsSpec)

/-- ITS FALSE NEIGHBOUR: 'it returns false'. Refute it at one input. -/
def keyTextsWrong : ChangeSpec := { name := "keyTexts", fn := fun _ => fun
  | [d1, d2, d3, d4, d5] => { results := [.lit (.bool false)], args := [d1, d2, d3, d4, d5] }
  | _ => none }
def KeyTextsWrongFalsely : Prop := keyTextsRow.holds Try.pinned (OpenSpec.ofChange keyTextsWrong)

/-- 'mempoollaw5.KeyLists': WHATEVER THE INPUT: true; the input reads as it did. -/
def keyListsSpec : ChangeSpec := { name := "keyLists", fn := fun _ => fun
  | [d1, d2, d3] => { results := [.lit (.bool true)], args := [d1, d2, d3] }
  | _ => none }
def keyListsRow : OpenClaim := { program := "ytbhklhpeppaadaa", sum := "2f76b26ebce08e70379d1ee4999cd66282ccc0d5676ad6f830ac6b2e0093c360", func := "mempool/mempoollaw5.KeyLists", spec := "keyLists", inPlace := ["internal/abi.NoEscape", "internal/bytealg.IndexByteString", "internal/bytealg.Compare"], plainKeys := false, apart := false }
def KeyListsSaid : Prop := keyListsRow.holds Try.pinned (OpenSpec.ofChange keyListsSpec)

/-- ITS FALSE NEIGHBOUR: 'it returns false'. Refute it at one input. -/
def keyListsWrong : ChangeSpec := { name := "keyLists", fn := fun _ => fun
  | [d1, d2, d3] => { results := [.lit (.bool false)], args := [d1, d2, d3] }
  | _ => none }
def KeyListsWrongFalsely : Prop := keyListsRow.holds Try.pinned (OpenSpec.ofChange keyListsWrong)

/- THE SECOND FORM. 'bulk': how many values and letters a reading holds, each counted each time it is reached (what is shared counts as often as it is met; a slice's spare places count too). A statement '..UptoSaid' is the law's where the arguments, and the package variables that the reading takes, are together of bulk at most 1048576: NARROWER than '..Said'. Prove '..Said' where nothing that the law and all that it calls make is longer than what came in: it says more and counts as full. Else prove '..UptoSaid'. A law counts once. -/
mutual
def uptoBulk {H : Type} : DataW H → Nat
  | .lit (.string bytes) => bytes.length + 1
  | .lit _ => 1
  | .nil => 1
  | .ptr d => uptoBulk d + 1
  | .slice elems spare => uptoBulkAll elems + uptoBulkAll spare + 1
  | .agg parts => uptoBulkAll parts + 1
  | .iface _ d => uptoBulk d + 1
  | .map entries => uptoBulkEntries entries + 1
  | .held _ => 1
def uptoBulkAll {H : Type} : List (DataW H) → Nat
  | [] => 0
  | d :: r => uptoBulk d + uptoBulkAll r
def uptoBulkEntries {H : Type} : List (Lit × DataW H) → Nat
  | [] => 0
  | x :: r => uptoBulkEntry x + uptoBulkEntries r
def uptoBulkEntry {H : Type} : Lit × DataW H → Nat
  | (.string bytes, d) => bytes.length + uptoBulk d + 1
  | (_, d) => uptoBulk d + 1
 end
def uptoSmall : (H : Type) → List (DataW H) → Bool := fun _ ds => decide (uptoBulkAll ds ≤ 1048576)
def OpenSpec.upto (s : _root_.Go.ChangeSpec) : _root_.Go.OpenSpec := { _root_.Go.OpenSpec.ofChange s with cond := some uptoSmall }

/-- 'mempoollaw5.KeyOf', WHERE WHAT IT READS IS OF BULK AT MOST 1048576: true; the input reads as it did. -/
def keyOfUptoRow : OpenClaim := { program := "ytbhklhpeppaadaa", sum := "2f76b26ebce08e70379d1ee4999cd66282ccc0d5676ad6f830ac6b2e0093c360", func := "mempool/mempoollaw5.KeyOf", spec := "keyOf", inPlace := ["internal/abi.NoEscape", "internal/bytealg.IndexByteString", "internal/bytealg.Compare"], plainKeys := false, apart := false, narrowed := true }
def KeyOfUptoSaid : Prop := keyOfUptoRow.holds Try.pinned (OpenSpec.upto keyOfSpec)

/-- 'mempoollaw5.KeyCompares', WHERE WHAT IT READS IS OF BULK AT MOST 1048576: true; the input reads as it did. -/
def keyComparesUptoRow : OpenClaim := { program := "ytbhklhpeppaadaa", sum := "2f76b26ebce08e70379d1ee4999cd66282ccc0d5676ad6f830ac6b2e0093c360", func := "mempool/mempoollaw5.KeyCompares", spec := "keyCompares", inPlace := ["internal/bytealg.Compare", "internal/abi.NoEscape", "internal/bytealg.IndexByteString"], plainKeys := false, apart := false, narrowed := true }
def KeyComparesUptoSaid : Prop := keyComparesUptoRow.holds Try.pinned (OpenSpec.upto keyComparesSpec)

/-- 'mempoollaw5.KeyTexts', WHERE WHAT IT READS IS OF BULK AT MOST 1048576: true; the input reads as it did. -/
def keyTextsUptoRow : OpenClaim := { program := "ytbhklhpeppaadaa", sum := "2f76b26ebce08e70379d1ee4999cd66282ccc0d5676ad6f830ac6b2e0093c360", func := "mempool/mempoollaw5.KeyTexts", spec := "keyTexts", inPlace := ["internal/abi.NoEscape", "internal/bytealg.IndexByteString", "internal/bytealg.Compare"], plainKeys := false, apart := false, narrowed := true }
def KeyTextsUptoSaid : Prop := keyTextsUptoRow.holds Try.pinned (OpenSpec.upto keyTextsSpec)

/-- 'mempoollaw5.KeyLists', WHERE WHAT IT READS IS OF BULK AT MOST 1048576: true; the input reads as it did. -/
def keyListsUptoRow : OpenClaim := { program := "ytbhklhpeppaadaa", sum := "2f76b26ebce08e70379d1ee4999cd66282ccc0d5676ad6f830ac6b2e0093c360", func := "mempool/mempoollaw5.KeyLists", spec := "keyLists", inPlace := ["internal/abi.NoEscape", "internal/bytealg.IndexByteString", "internal/bytealg.Compare"], plainKeys := false, apart := false, narrowed := true }
def KeyListsUptoSaid : Prop := keyListsUptoRow.holds Try.pinned (OpenSpec.upto keyListsSpec)

end Rows
end Go.Proofs.Ytbhklhpeppaadaa
