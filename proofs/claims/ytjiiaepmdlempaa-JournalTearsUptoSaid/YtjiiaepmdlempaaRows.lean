/-
  No cell of these rows narrows 'for every input' (looked for: loops, veiled, ifaces, maps, wideKeys, modest, calm, conditions, laid).
  DERIVED. THE GIVEN ROWS OF THIS SEAT. 4 by the template 'for every input the law returns true; each argument reads behind the call as it read before'; 0 by the template 'total and deterministic' (their statements: YtjiiaepmdlempaaTotals.lean).
  GIVEN WITH THE SEED: the statements are not yours to turn. If you find one false, say at which input.
  Laid BY PROGRAM, IN A SANDBOX (cutbox-rows.mjs): the forced cells as the released guide's own fill.sh prints them over the translation 4c0534ceaf477aa5… (all of the seat's roots in one cut). By AI agents, Wed Nov 11 2026. No macro, syntax, notation, axiom, sorry.
-/
import Derived.Test.YtjiiaepmdlempaaChecked
import GoSem.Claim
import GoSem.ClaimJoined
import GoSem.ClaimMapViews
import Derived.JoinedTies
import Derived.KernelRfl
namespace Go.Proofs.Ytjiiaepmdlempaa
/- THE CELL 'sum', in the pinned program and in every row, IS THE sha256 OF THE DUMP (.gsa) THAT YtjiiaepmdlempaaProg.lean LOADS. Nothing in Lean hashes anything: it is a label: what it is worth is what the hold of that sum in a sandbox is worth. -/
noncomputable def Try.pinned : Pinned := { name := "ytjiiaepmdlempaa", sum := "4c0534ceaf477aa53c372d206b4fd7e916906aab19208e4a6e1709492820d8e2", checked := Try.checked }
namespace Rows
def none {H : Type} : Left H := { results := [], args := [] }

/-- 'mempoollaw29.JournalAppends': WHATEVER THE INPUT: true; the input reads as it did. -/
def journalAppendsSpec : ChangeSpec := { name := "journalAppends", fn := fun _ => fun
  | [d1, d2, d3] => { results := [.lit (.bool true)], args := [d1, d2, d3] }
  | _ => none }
def journalAppendsRow : OpenClaim := { program := "ytjiiaepmdlempaa", sum := "4c0534ceaf477aa53c372d206b4fd7e916906aab19208e4a6e1709492820d8e2", func := "mempool/mempoollaw29.JournalAppends", spec := "journalAppends", apart := false }
def JournalAppendsSaid : Prop := journalAppendsRow.holds Try.pinned (OpenSpec.ofChange journalAppendsSpec)

/-- ITS FALSE NEIGHBOUR: 'it returns false'. Refute it at one input. -/
def journalAppendsWrong : ChangeSpec := { name := "journalAppends", fn := fun _ => fun
  | [d1, d2, d3] => { results := [.lit (.bool false)], args := [d1, d2, d3] }
  | _ => none }
def JournalAppendsWrongFalsely : Prop := journalAppendsRow.holds Try.pinned (OpenSpec.ofChange journalAppendsWrong)

/-- 'mempoollaw29.JournalLimits': WHATEVER THE INPUT: true; the input reads as it did. -/
def journalLimitsSpec : ChangeSpec := { name := "journalLimits", fn := fun _ => fun
  | [d1, d2] => { results := [.lit (.bool true)], args := [d1, d2] }
  | _ => none }
def journalLimitsRow : OpenClaim := { program := "ytjiiaepmdlempaa", sum := "4c0534ceaf477aa53c372d206b4fd7e916906aab19208e4a6e1709492820d8e2", func := "mempool/mempoollaw29.JournalLimits", spec := "journalLimits", apart := false }
def JournalLimitsSaid : Prop := journalLimitsRow.holds Try.pinned (OpenSpec.ofChange journalLimitsSpec)

/-- ITS FALSE NEIGHBOUR: 'it returns false'. Refute it at one input. -/
def journalLimitsWrong : ChangeSpec := { name := "journalLimits", fn := fun _ => fun
  | [d1, d2] => { results := [.lit (.bool false)], args := [d1, d2] }
  | _ => none }
def JournalLimitsWrongFalsely : Prop := journalLimitsRow.holds Try.pinned (OpenSpec.ofChange journalLimitsWrong)

/-- 'mempoollaw29.JournalReads': WHATEVER THE INPUT: true; the input reads as it did. -/
def journalReadsSpec : ChangeSpec := { name := "journalReads", fn := fun _ => fun
  | [d1, d2, d3, d4, d5] => { results := [.lit (.bool true)], args := [d1, d2, d3, d4, d5] }
  | _ => none }
def journalReadsRow : OpenClaim := { program := "ytjiiaepmdlempaa", sum := "4c0534ceaf477aa53c372d206b4fd7e916906aab19208e4a6e1709492820d8e2", func := "mempool/mempoollaw29.JournalReads", spec := "journalReads", apart := false }
def JournalReadsSaid : Prop := journalReadsRow.holds Try.pinned (OpenSpec.ofChange journalReadsSpec)

/-- ITS FALSE NEIGHBOUR: 'it returns false'. Refute it at one input. -/
def journalReadsWrong : ChangeSpec := { name := "journalReads", fn := fun _ => fun
  | [d1, d2, d3, d4, d5] => { results := [.lit (.bool false)], args := [d1, d2, d3, d4, d5] }
  | _ => none }
def JournalReadsWrongFalsely : Prop := journalReadsRow.holds Try.pinned (OpenSpec.ofChange journalReadsWrong)

/-- 'mempoollaw29.JournalTears': WHATEVER THE INPUT: true; the input reads as it did. -/
def journalTearsSpec : ChangeSpec := { name := "journalTears", fn := fun _ => fun
  | [d1, d2, d3] => { results := [.lit (.bool true)], args := [d1, d2, d3] }
  | _ => none }
def journalTearsRow : OpenClaim := { program := "ytjiiaepmdlempaa", sum := "4c0534ceaf477aa53c372d206b4fd7e916906aab19208e4a6e1709492820d8e2", func := "mempool/mempoollaw29.JournalTears", spec := "journalTears", apart := false }
def JournalTearsSaid : Prop := journalTearsRow.holds Try.pinned (OpenSpec.ofChange journalTearsSpec)

/-- ITS FALSE NEIGHBOUR: 'it returns false'. Refute it at one input. -/
def journalTearsWrong : ChangeSpec := { name := "journalTears", fn := fun _ => fun
  | [d1, d2, d3] => { results := [.lit (.bool false)], args := [d1, d2, d3] }
  | _ => none }
def JournalTearsWrongFalsely : Prop := journalTearsRow.holds Try.pinned (OpenSpec.ofChange journalTearsWrong)

/- THE SECOND FORM. 'bulk': how many values and letters a reading holds, each counted each time it is reached (what is shared counts as often as it is met; a slice's spare places count too). A statement '..UptoSaid' is the law's where the arguments, and the package variables that the reading takes, are together of bulk at most 1048576: NARROWER than '..Said'. Prove '..Said' where nothing that the law and all that it calls make is longer than what came in: it says more and counts as full. Else prove '..UptoSaid'. A law counts once. -/
mutual
def uptoBulk {H : Type} : DataW H → Nat
  | .lit (.string bytes) => bytes.length + 1
  | .lit _ => 1
  | .nil => 1
  | .ptr d => uptoBulk d + 1
  | .slice elems spare => uptoBulkAll elems + uptoBulkAll spare + 1
  | .agg parts => uptoBulkAll parts + 1
  | .iface _ d => uptoBulk d + 1
  | .map entries => uptoBulkEntries entries + 1
  | .held _ => 1
def uptoBulkAll {H : Type} : List (DataW H) → Nat
  | [] => 0
  | d :: r => uptoBulk d + uptoBulkAll r
def uptoBulkEntries {H : Type} : List (Lit × DataW H) → Nat
  | [] => 0
  | x :: r => uptoBulkEntry x + uptoBulkEntries r
def uptoBulkEntry {H : Type} : Lit × DataW H → Nat
  | (.string bytes, d) => bytes.length + uptoBulk d + 1
  | (_, d) => uptoBulk d + 1
 end
def uptoSmall : (H : Type) → List (DataW H) → Bool := fun _ ds => decide (uptoBulkAll ds ≤ 1048576)
def OpenSpec.upto (s : _root_.Go.ChangeSpec) : _root_.Go.OpenSpec := { _root_.Go.OpenSpec.ofChange s with cond := some uptoSmall }

/-- 'mempoollaw29.JournalAppends', WHERE WHAT IT READS IS OF BULK AT MOST 1048576: true; the input reads as it did. -/
def journalAppendsUptoRow : OpenClaim := { program := "ytjiiaepmdlempaa", sum := "4c0534ceaf477aa53c372d206b4fd7e916906aab19208e4a6e1709492820d8e2", func := "mempool/mempoollaw29.JournalAppends", spec := "journalAppends", apart := false, narrowed := true }
def JournalAppendsUptoSaid : Prop := journalAppendsUptoRow.holds Try.pinned (OpenSpec.upto journalAppendsSpec)

/-- 'mempoollaw29.JournalLimits', WHERE WHAT IT READS IS OF BULK AT MOST 1048576: true; the input reads as it did. -/
def journalLimitsUptoRow : OpenClaim := { program := "ytjiiaepmdlempaa", sum := "4c0534ceaf477aa53c372d206b4fd7e916906aab19208e4a6e1709492820d8e2", func := "mempool/mempoollaw29.JournalLimits", spec := "journalLimits", apart := false, narrowed := true }
def JournalLimitsUptoSaid : Prop := journalLimitsUptoRow.holds Try.pinned (OpenSpec.upto journalLimitsSpec)

/-- 'mempoollaw29.JournalReads', WHERE WHAT IT READS IS OF BULK AT MOST 1048576: true; the input reads as it did. -/
def journalReadsUptoRow : OpenClaim := { program := "ytjiiaepmdlempaa", sum := "4c0534ceaf477aa53c372d206b4fd7e916906aab19208e4a6e1709492820d8e2", func := "mempool/mempoollaw29.JournalReads", spec := "journalReads", apart := false, narrowed := true }
def JournalReadsUptoSaid : Prop := journalReadsUptoRow.holds Try.pinned (OpenSpec.upto journalReadsSpec)

/-- 'mempoollaw29.JournalTears', WHERE WHAT IT READS IS OF BULK AT MOST 1048576: true; the input reads as it did. -/
def journalTearsUptoRow : OpenClaim := { program := "ytjiiaepmdlempaa", sum := "4c0534ceaf477aa53c372d206b4fd7e916906aab19208e4a6e1709492820d8e2", func := "mempool/mempoollaw29.JournalTears", spec := "journalTears", apart := false, narrowed := true }
def JournalTearsUptoSaid : Prop := journalTearsUptoRow.holds Try.pinned (OpenSpec.upto journalTearsSpec)

end Rows
end Go.Proofs.Ytjiiaepmdlempaa
