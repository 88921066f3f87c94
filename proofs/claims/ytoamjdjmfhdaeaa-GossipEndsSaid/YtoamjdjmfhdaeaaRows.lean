/-
  No cell of these rows narrows 'for every input' (looked for: loops, veiled, ifaces, maps, wideKeys, modest, calm, conditions, laid).
  DERIVED. THE GIVEN ROWS OF THIS SEAT. 3 by the template 'for every input the law returns true; each argument reads behind the call as it read before'; 0 by the template 'total and deterministic' (their statements: YtoamjdjmfhdaeaaTotals.lean).
  GIVEN WITH THE SEED: the statements are not yours to turn. If you find one false, say at which input.
  Laid BY PROGRAM, IN A SANDBOX (cutbox-rows.mjs): the forced cells as the released guide's own fill.sh prints them over the translation 080e8a64eaaa6538… (all of the seat's roots in one cut). By AI agents, Wed Nov 11 2026. No macro, syntax, notation, axiom, sorry.
-/
import Derived.Test.YtoamjdjmfhdaeaaChecked
import GoSem.Claim
import GoSem.ClaimJoined
import GoSem.ClaimMapViews
import Derived.JoinedTies
import Derived.KernelRfl
namespace Go.Proofs.Ytoamjdjmfhdaeaa
/- THE CELL 'sum', in the pinned program and in every row, IS THE sha256 OF THE DUMP (.gsa) THAT YtoamjdjmfhdaeaaProg.lean LOADS. Nothing in Lean hashes anything: it is a label: what it is worth is what the hold of that sum in a sandbox is worth. -/
noncomputable def Try.pinned : Pinned := { name := "ytoamjdjmfhdaeaa", sum := "080e8a64eaaa65385f5066de408dba599c938d3a6375f3f3bdfbda1b788fc632", checked := Try.checked }
namespace Rows
def none {H : Type} : Left H := { results := [], args := [] }

/-- 'mempoollaw28.GossipPrunes': WHATEVER THE INPUT: true; the input reads as it did. -/
def gossipPrunesSpec : ChangeSpec := { name := "gossipPrunes", fn := fun _ => fun
  | [d1, d2, d3] => { results := [.lit (.bool true)], args := [d1, d2, d3] }
  | _ => none }
def gossipPrunesRow : OpenClaim := { program := "ytoamjdjmfhdaeaa", sum := "080e8a64eaaa65385f5066de408dba599c938d3a6375f3f3bdfbda1b788fc632", func := "mempool/mempoollaw28.GossipPrunes", spec := "gossipPrunes", plainKeys := false, apart := false }
def GossipPrunesSaid : Prop := gossipPrunesRow.holds Try.pinned (OpenSpec.ofChange gossipPrunesSpec)

/-- ITS FALSE NEIGHBOUR: 'it returns false'. Refute it at one input. -/
def gossipPrunesWrong : ChangeSpec := { name := "gossipPrunes", fn := fun _ => fun
  | [d1, d2, d3] => { results := [.lit (.bool false)], args := [d1, d2, d3] }
  | _ => none }
def GossipPrunesWrongFalsely : Prop := gossipPrunesRow.holds Try.pinned (OpenSpec.ofChange gossipPrunesWrong)

/-- 'mempoollaw28.GossipLeft': WHATEVER THE INPUT: true; the input reads as it did. -/
def gossipLeftSpec : ChangeSpec := { name := "gossipLeft", fn := fun _ => fun
  | [d1, d2, d3, d4] => { results := [.lit (.bool true)], args := [d1, d2, d3, d4] }
  | _ => none }
def gossipLeftRow : OpenClaim := { program := "ytoamjdjmfhdaeaa", sum := "080e8a64eaaa65385f5066de408dba599c938d3a6375f3f3bdfbda1b788fc632", func := "mempool/mempoollaw28.GossipLeft", spec := "gossipLeft", plainKeys := false, apart := false }
def GossipLeftSaid : Prop := gossipLeftRow.holds Try.pinned (OpenSpec.ofChange gossipLeftSpec)

/-- ITS FALSE NEIGHBOUR: 'it returns false'. Refute it at one input. -/
def gossipLeftWrong : ChangeSpec := { name := "gossipLeft", fn := fun _ => fun
  | [d1, d2, d3, d4] => { results := [.lit (.bool false)], args := [d1, d2, d3, d4] }
  | _ => none }
def GossipLeftWrongFalsely : Prop := gossipLeftRow.holds Try.pinned (OpenSpec.ofChange gossipLeftWrong)

/-- 'mempoollaw28.GossipEnds': WHATEVER THE INPUT: true; the input reads as it did. -/
def gossipEndsSpec : ChangeSpec := { name := "gossipEnds", fn := fun _ => fun
  | [d1, d2] => { results := [.lit (.bool true)], args := [d1, d2] }
  | _ => none }
def gossipEndsRow : OpenClaim := { program := "ytoamjdjmfhdaeaa", sum := "080e8a64eaaa65385f5066de408dba599c938d3a6375f3f3bdfbda1b788fc632", func := "mempool/mempoollaw28.GossipEnds", spec := "gossipEnds", plainKeys := false, apart := false }
def GossipEndsSaid : Prop := gossipEndsRow.holds Try.pinned (OpenSpec.ofChange gossipEndsSpec)

/-- ITS FALSE NEIGHBOUR: 'it returns false'. Refute it at one input. -/
def gossipEndsWrong : ChangeSpec := { name := "gossipEnds", fn := fun _ => fun
  | [d1, d2] => { results := [.lit (.bool false)], args := [d1, d2] }
  | _ => none }
def GossipEndsWrongFalsely : Prop := gossipEndsRow.holds Try.pinned (OpenSpec.ofChange gossipEndsWrong)

/- THE SECOND FORM. 'bulk': how many values and letters a reading holds, each counted each time it is reached (what is shared counts as often as it is met; a slice's spare places count too). A statement '..UptoSaid' is the law's where the arguments, and the package variables that the reading takes, are together of bulk at most 1048576: NARROWER than '..Said'. Prove '..Said' where nothing that the law and all that it calls make is longer than what came in: it says more and counts as full. Else prove '..UptoSaid'. A law counts once. -/
mutual
def uptoBulk {H : Type} : DataW H → Nat
  | .lit (.string bytes) => bytes.length + 1
  | .lit _ => 1
  | .nil => 1
  | .ptr d => uptoBulk d + 1
  | .slice elems spare => uptoBulkAll elems + uptoBulkAll spare + 1
  | .agg parts => uptoBulkAll parts + 1
  | .iface _ d => uptoBulk d + 1
  | .map entries => uptoBulkEntries entries + 1
  | .held _ => 1
def uptoBulkAll {H : Type} : List (DataW H) → Nat
  | [] => 0
  | d :: r => uptoBulk d + uptoBulkAll r
def uptoBulkEntries {H : Type} : List (Lit × DataW H) → Nat
  | [] => 0
  | x :: r => uptoBulkEntry x + uptoBulkEntries r
def uptoBulkEntry {H : Type} : Lit × DataW H → Nat
  | (.string bytes, d) => bytes.length + uptoBulk d + 1
  | (_, d) => uptoBulk d + 1
 end
def uptoSmall : (H : Type) → List (DataW H) → Bool := fun _ ds => decide (uptoBulkAll ds ≤ 1048576)
def OpenSpec.upto (s : _root_.Go.ChangeSpec) : _root_.Go.OpenSpec := { _root_.Go.OpenSpec.ofChange s with cond := some uptoSmall }

/-- 'mempoollaw28.GossipPrunes', WHERE WHAT IT READS IS OF BULK AT MOST 1048576: true; the input reads as it did. -/
def gossipPrunesUptoRow : OpenClaim := { program := "ytoamjdjmfhdaeaa", sum := "080e8a64eaaa65385f5066de408dba599c938d3a6375f3f3bdfbda1b788fc632", func := "mempool/mempoollaw28.GossipPrunes", spec := "gossipPrunes", plainKeys := false, apart := false, narrowed := true }
def GossipPrunesUptoSaid : Prop := gossipPrunesUptoRow.holds Try.pinned (OpenSpec.upto gossipPrunesSpec)

/-- 'mempoollaw28.GossipLeft', WHERE WHAT IT READS IS OF BULK AT MOST 1048576: true; the input reads as it did. -/
def gossipLeftUptoRow : OpenClaim := { program := "ytoamjdjmfhdaeaa", sum := "080e8a64eaaa65385f5066de408dba599c938d3a6375f3f3bdfbda1b788fc632", func := "mempool/mempoollaw28.GossipLeft", spec := "gossipLeft", plainKeys := false, apart := false, narrowed := true }
def GossipLeftUptoSaid : Prop := gossipLeftUptoRow.holds Try.pinned (OpenSpec.upto gossipLeftSpec)

/-- 'mempoollaw28.GossipEnds', WHERE WHAT IT READS IS OF BULK AT MOST 1048576: true; the input reads as it did. -/
def gossipEndsUptoRow : OpenClaim := { program := "ytoamjdjmfhdaeaa", sum := "080e8a64eaaa65385f5066de408dba599c938d3a6375f3f3bdfbda1b788fc632", func := "mempool/mempoollaw28.GossipEnds", spec := "gossipEnds", plainKeys := false, apart := false, narrowed := true }
def GossipEndsUptoSaid : Prop := gossipEndsUptoRow.holds Try.pinned (OpenSpec.upto gossipEndsSpec)

end Rows
end Go.Proofs.Ytoamjdjmfhdaeaa
