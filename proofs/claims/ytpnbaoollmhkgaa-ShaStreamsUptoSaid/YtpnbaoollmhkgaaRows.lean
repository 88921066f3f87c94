/-
  No cell of these rows narrows 'for every input' (looked for: loops, veiled, ifaces, maps, wideKeys, modest, calm, conditions, laid).
  DERIVED. THE GIVEN ROWS OF THIS SEAT. 4 by the template 'for every input the law returns true; each argument reads behind the call as it read before'; 0 by the template 'total and deterministic' (their statements: YtpnbaoollmhkgaaTotals.lean).
  GIVEN WITH THE SEED: the statements are not yours to turn. If you find one false, say at which input.
  Laid BY PROGRAM, IN A SANDBOX (cutbox-rows.mjs): the forced cells as the released guide's own fill.sh prints them over the translation 012ad09bbe1df97b… (all of the seat's roots in one cut). By AI agents, Wed Nov 11 2026. No macro, syntax, notation, axiom, sorry.
-/
import Derived.Test.YtpnbaoollmhkgaaChecked
import GoSem.Claim
import GoSem.ClaimJoined
import GoSem.ClaimMapViews
import Derived.JoinedTies
import Derived.KernelRfl
namespace Go.Proofs.Ytpnbaoollmhkgaa
/- THE CELL 'sum', in the pinned program and in every row, IS THE sha256 OF THE DUMP (.gsa) THAT YtpnbaoollmhkgaaProg.lean LOADS. Nothing in Lean hashes anything: it is a label: what it is worth is what the hold of that sum in a sandbox is worth. -/
noncomputable def Try.pinned : Pinned := { name := "ytpnbaoollmhkgaa", sum := "012ad09bbe1df97bbfb35c49c576f40eeb04e555b81c296b187e4177ac10814b", checked := Try.checked }
namespace Rows
def none {H : Type} : Left H := { results := [], args := [] }

/-- 'mempoollaw4.ShaSums': WHATEVER THE INPUT: true; the input reads as it did. -/
def shaSumsSpec : ChangeSpec := { name := "shaSums", fn := fun _ => fun
  | [d1, d2] => { results := [.lit (.bool true)], args := [d1, d2] }
  | _ => none }
def shaSumsRow : OpenClaim := { program := "ytpnbaoollmhkgaa", sum := "012ad09bbe1df97bbfb35c49c576f40eeb04e555b81c296b187e4177ac10814b", func := "mempool/mempoollaw4.ShaSums", spec := "shaSums", apart := false }
def ShaSumsSaid : Prop := shaSumsRow.holds Try.pinned (OpenSpec.ofChange shaSumsSpec)

/-- ITS FALSE NEIGHBOUR: 'it returns false'. Refute it at one input. -/
def shaSumsWrong : ChangeSpec := { name := "shaSums", fn := fun _ => fun
  | [d1, d2] => { results := [.lit (.bool false)], args := [d1, d2] }
  | _ => none }
def ShaSumsWrongFalsely : Prop := shaSumsRow.holds Try.pinned (OpenSpec.ofChange shaSumsWrong)

/-- 'mempoollaw4.ShaStreams': WHATEVER THE INPUT: true; the input reads as it did. -/
def shaStreamsSpec : ChangeSpec := { name := "shaStreams", fn := fun _ => fun
  | [d1, d2] => { results := [.lit (.bool true)], args := [d1, d2] }
  | _ => none }
def shaStreamsRow : OpenClaim := { program := "ytpnbaoollmhkgaa", sum := "012ad09bbe1df97bbfb35c49c576f40eeb04e555b81c296b187e4177ac10814b", func := "mempool/mempoollaw4.ShaStreams", spec := "shaStreams", apart := false }
def ShaStreamsSaid : Prop := shaStreamsRow.holds Try.pinned (OpenSpec.ofChange shaStreamsSpec)

/-- ITS FALSE NEIGHBOUR: 'it returns false'. Refute it at one input. -/
def shaStreamsWrong : ChangeSpec := { name := "shaStreams", fn := fun _ => fun
  | [d1, d2] => { results := [.lit (.bool false)], args := [d1, d2] }
  | _ => none }
def ShaStreamsWrongFalsely : Prop := shaStreamsRow.holds Try.pinned (OpenSpec.ofChange shaStreamsWrong)

/-- 'mempoollaw4.ShaIndependent': WHATEVER THE INPUT: true; the input reads as it did. -/
def shaIndependentSpec : ChangeSpec := { name := "shaIndependent", fn := fun _ => fun
  | [d1, d2] => { results := [.lit (.bool true)], args := [d1, d2] }
  | _ => none }
def shaIndependentRow : OpenClaim := { program := "ytpnbaoollmhkgaa", sum := "012ad09bbe1df97bbfb35c49c576f40eeb04e555b81c296b187e4177ac10814b", func := "mempool/mempoollaw4.ShaIndependent", spec := "shaIndependent", apart := false }
def ShaIndependentSaid : Prop := shaIndependentRow.holds Try.pinned (OpenSpec.ofChange shaIndependentSpec)

/-- ITS FALSE NEIGHBOUR: 'it returns false'. Refute it at one input. -/
def shaIndependentWrong : ChangeSpec := { name := "shaIndependent", fn := fun _ => fun
  | [d1, d2] => { results := [.lit (.bool false)], args := [d1, d2] }
  | _ => none }
def ShaIndependentWrongFalsely : Prop := shaIndependentRow.holds Try.pinned (OpenSpec.ofChange shaIndependentWrong)

/-- 'mempoollaw4.ShaBlocks': WHATEVER THE INPUT: true; the input reads as it did. -/
def shaBlocksSpec : ChangeSpec := { name := "shaBlocks", fn := fun _ => fun
  | [d1, d2] => { results := [.lit (.bool true)], args := [d1, d2] }
  | _ => none }
def shaBlocksRow : OpenClaim := { program := "ytpnbaoollmhkgaa", sum := "012ad09bbe1df97bbfb35c49c576f40eeb04e555b81c296b187e4177ac10814b", func := "mempool/mempoollaw4.ShaBlocks", spec := "shaBlocks", apart := false }
def ShaBlocksSaid : Prop := shaBlocksRow.holds Try.pinned (OpenSpec.ofChange shaBlocksSpec)

/-- ITS FALSE NEIGHBOUR: 'it returns false'. Refute it at one input. -/
def shaBlocksWrong : ChangeSpec := { name := "shaBlocks", fn := fun _ => fun
  | [d1, d2] => { results := [.lit (.bool false)], args := [d1, d2] }
  | _ => none }
def ShaBlocksWrongFalsely : Prop := shaBlocksRow.holds Try.pinned (OpenSpec.ofChange shaBlocksWrong)

/- THE SECOND FORM. 'bulk': how many values and letters a reading holds, each counted each time it is reached (what is shared counts as often as it is met; a slice's spare places count too). A statement '..UptoSaid' is the law's where the arguments, and the package variables that the reading takes, are together of bulk at most 1048576: NARROWER than '..Said'. Prove '..Said' where nothing that the law and all that it calls make is longer than what came in: it says more and counts as full. Else prove '..UptoSaid'. A law counts once. -/
mutual
def uptoBulk {H : Type} : DataW H → Nat
  | .lit (.string bytes) => bytes.length + 1
  | .lit _ => 1
  | .nil => 1
  | .ptr d => uptoBulk d + 1
  | .slice elems spare => uptoBulkAll elems + uptoBulkAll spare + 1
  | .agg parts => uptoBulkAll parts + 1
  | .iface _ d => uptoBulk d + 1
  | .map entries => uptoBulkEntries entries + 1
  | .held _ => 1
def uptoBulkAll {H : Type} : List (DataW H) → Nat
  | [] => 0
  | d :: r => uptoBulk d + uptoBulkAll r
def uptoBulkEntries {H : Type} : List (Lit × DataW H) → Nat
  | [] => 0
  | x :: r => uptoBulkEntry x + uptoBulkEntries r
def uptoBulkEntry {H : Type} : Lit × DataW H → Nat
  | (.string bytes, d) => bytes.length + uptoBulk d + 1
  | (_, d) => uptoBulk d + 1
 end
def uptoSmall : (H : Type) → List (DataW H) → Bool := fun _ ds => decide (uptoBulkAll ds ≤ 1048576)
def OpenSpec.upto (s : _root_.Go.ChangeSpec) : _root_.Go.OpenSpec := { _root_.Go.OpenSpec.ofChange s with cond := some uptoSmall }

/-- 'mempoollaw4.ShaSums', WHERE WHAT IT READS IS OF BULK AT MOST 1048576: true; the input reads as it did. -/
def shaSumsUptoRow : OpenClaim := { program := "ytpnbaoollmhkgaa", sum := "012ad09bbe1df97bbfb35c49c576f40eeb04e555b81c296b187e4177ac10814b", func := "mempool/mempoollaw4.ShaSums", spec := "shaSums", apart := false, narrowed := true }
def ShaSumsUptoSaid : Prop := shaSumsUptoRow.holds Try.pinned (OpenSpec.upto shaSumsSpec)

/-- 'mempoollaw4.ShaStreams', WHERE WHAT IT READS IS OF BULK AT MOST 1048576: true; the input reads as it did. -/
def shaStreamsUptoRow : OpenClaim := { program := "ytpnbaoollmhkgaa", sum := "012ad09bbe1df97bbfb35c49c576f40eeb04e555b81c296b187e4177ac10814b", func := "mempool/mempoollaw4.ShaStreams", spec := "shaStreams", apart := false, narrowed := true }
def ShaStreamsUptoSaid : Prop := shaStreamsUptoRow.holds Try.pinned (OpenSpec.upto shaStreamsSpec)

/-- 'mempoollaw4.ShaIndependent', WHERE WHAT IT READS IS OF BULK AT MOST 1048576: true; the input reads as it did. -/
def shaIndependentUptoRow : OpenClaim := { program := "ytpnbaoollmhkgaa", sum := "012ad09bbe1df97bbfb35c49c576f40eeb04e555b81c296b187e4177ac10814b", func := "mempool/mempoollaw4.ShaIndependent", spec := "shaIndependent", apart := false, narrowed := true }
def ShaIndependentUptoSaid : Prop := shaIndependentUptoRow.holds Try.pinned (OpenSpec.upto shaIndependentSpec)

/-- 'mempoollaw4.ShaBlocks', WHERE WHAT IT READS IS OF BULK AT MOST 1048576: true; the input reads as it did. -/
def shaBlocksUptoRow : OpenClaim := { program := "ytpnbaoollmhkgaa", sum := "012ad09bbe1df97bbfb35c49c576f40eeb04e555b81c296b187e4177ac10814b", func := "mempool/mempoollaw4.ShaBlocks", spec := "shaBlocks", apart := false, narrowed := true }
def ShaBlocksUptoSaid : Prop := shaBlocksUptoRow.holds Try.pinned (OpenSpec.upto shaBlocksSpec)

end Rows
end Go.Proofs.Ytpnbaoollmhkgaa
