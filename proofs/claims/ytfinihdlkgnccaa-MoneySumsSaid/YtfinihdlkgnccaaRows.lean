/-
  No cell of these rows narrows 'for every input' (looked for: loops, veiled, ifaces, maps, wideKeys, modest, calm, conditions, laid).
  DERIVED. THE GIVEN ROWS OF THIS SEAT. 6 by the template 'for every input the law returns true; each argument reads behind the call as it read before'; 0 by the template 'total and deterministic' (their statements: YtfinihdlkgnccaaTotals.lean).
  GIVEN WITH THE SEED: the statements are not yours to turn. If you find one false, say at which input.
  Laid BY PROGRAM, IN A SANDBOX (cutbox-rows.mjs): the forced cells as the released guide's own fill.sh prints them over the translation 94dbdfb5b395c53d… (all of the seat's roots in one cut). By AI agents, Wed Nov 11 2026. No macro, syntax, notation, axiom, sorry.
-/
import Derived.Test.YtfinihdlkgnccaaChecked
import GoSem.Claim
import GoSem.ClaimJoined
import GoSem.ClaimMapViews
import Derived.JoinedTies
import Derived.KernelRfl
namespace Go.Proofs.Ytfinihdlkgnccaa
/- THE CELL 'sum', in the pinned program and in every row, IS THE sha256 OF THE DUMP (.gsa) THAT YtfinihdlkgnccaaProg.lean LOADS. Nothing in Lean hashes anything: it is a label: what it is worth is what the hold of that sum in a sandbox is worth. -/
noncomputable def Try.pinned : Pinned := { name := "ytfinihdlkgnccaa", sum := "94dbdfb5b395c53dd88ed1ba20ebdf1803fa823f5a7995d8d3937d8be2e39b0f", checked := Try.checked }
namespace Rows
def none {H : Type} : Left H := { results := [], args := [] }

/-- 'mempoollaw1.MoneyDivides': WHATEVER THE INPUT: true; the input reads as it did. -/
def moneyDividesSpec : ChangeSpec := { name := "moneyDivides", fn := fun _ => fun
  | [d1, d2, d3, d4] => { results := [.lit (.bool true)], args := [d1, d2, d3, d4] }
  | _ => none }
def moneyDividesRow : OpenClaim := { program := "ytfinihdlkgnccaa", sum := "94dbdfb5b395c53dd88ed1ba20ebdf1803fa823f5a7995d8d3937d8be2e39b0f", func := "mempool/mempoollaw1.MoneyDivides", spec := "moneyDivides", inPlace := ["math/bits.Add64"], named := ["math/bits.divideError", "math/bits.overflowError"], apart := false }
def MoneyDividesSaid : Prop := moneyDividesRow.holds Try.pinned (OpenSpec.ofChange moneyDividesSpec)

/-- ITS FALSE NEIGHBOUR: 'it returns false'. Refute it at one input. -/
def moneyDividesWrong : ChangeSpec := { name := "moneyDivides", fn := fun _ => fun
  | [d1, d2, d3, d4] => { results := [.lit (.bool false)], args := [d1, d2, d3, d4] }
  | _ => none }
def MoneyDividesWrongFalsely : Prop := moneyDividesRow.holds Try.pinned (OpenSpec.ofChange moneyDividesWrong)

/-- 'mempoollaw1.MoneyQuotients': WHATEVER THE INPUT: true; the input reads as it did. -/
def moneyQuotientsSpec : ChangeSpec := { name := "moneyQuotients", fn := fun _ => fun
  | [d1, d2, d3] => { results := [.lit (.bool true)], args := [d1, d2, d3] }
  | _ => none }
def moneyQuotientsRow : OpenClaim := { program := "ytfinihdlkgnccaa", sum := "94dbdfb5b395c53dd88ed1ba20ebdf1803fa823f5a7995d8d3937d8be2e39b0f", func := "mempool/mempoollaw1.MoneyQuotients", spec := "moneyQuotients", inPlace := ["math/bits.Add64"], named := ["math/bits.divideError", "math/bits.overflowError"], apart := false }
def MoneyQuotientsSaid : Prop := moneyQuotientsRow.holds Try.pinned (OpenSpec.ofChange moneyQuotientsSpec)

/-- ITS FALSE NEIGHBOUR: 'it returns false'. Refute it at one input. -/
def moneyQuotientsWrong : ChangeSpec := { name := "moneyQuotients", fn := fun _ => fun
  | [d1, d2, d3] => { results := [.lit (.bool false)], args := [d1, d2, d3] }
  | _ => none }
def MoneyQuotientsWrongFalsely : Prop := moneyQuotientsRow.holds Try.pinned (OpenSpec.ofChange moneyQuotientsWrong)

/-- 'mempoollaw1.MoneyExchanges': WHATEVER THE INPUT: true; the input reads as it did. -/
def moneyExchangesSpec : ChangeSpec := { name := "moneyExchanges", fn := fun _ => fun
  | [d1, d2, d3] => { results := [.lit (.bool true)], args := [d1, d2, d3] }
  | _ => none }
def moneyExchangesRow : OpenClaim := { program := "ytfinihdlkgnccaa", sum := "94dbdfb5b395c53dd88ed1ba20ebdf1803fa823f5a7995d8d3937d8be2e39b0f", func := "mempool/mempoollaw1.MoneyExchanges", spec := "moneyExchanges", inPlace := ["math/bits.Add64"], named := ["math/bits.divideError", "math/bits.overflowError"], apart := false }
def MoneyExchangesSaid : Prop := moneyExchangesRow.holds Try.pinned (OpenSpec.ofChange moneyExchangesSpec)

/-- ITS FALSE NEIGHBOUR: 'it returns false'. Refute it at one input. -/
def moneyExchangesWrong : ChangeSpec := { name := "moneyExchanges", fn := fun _ => fun
  | [d1, d2, d3] => { results := [.lit (.bool false)], args := [d1, d2, d3] }
  | _ => none }
def MoneyExchangesWrongFalsely : Prop := moneyExchangesRow.holds Try.pinned (OpenSpec.ofChange moneyExchangesWrong)

/-- 'mempoollaw1.MoneySums': WHATEVER THE INPUT: true; the input reads as it did. -/
def moneySumsSpec : ChangeSpec := { name := "moneySums", fn := fun _ => fun
  | [d1, d2] => { results := [.lit (.bool true)], args := [d1, d2] }
  | _ => none }
def moneySumsRow : OpenClaim := { program := "ytfinihdlkgnccaa", sum := "94dbdfb5b395c53dd88ed1ba20ebdf1803fa823f5a7995d8d3937d8be2e39b0f", func := "mempool/mempoollaw1.MoneySums", spec := "moneySums", inPlace := ["math/bits.Add64"], named := ["math/bits.divideError", "math/bits.overflowError"], apart := false }
def MoneySumsSaid : Prop := moneySumsRow.holds Try.pinned (OpenSpec.ofChange moneySumsSpec)

/-- ITS FALSE NEIGHBOUR: 'it returns false'. Refute it at one input. -/
def moneySumsWrong : ChangeSpec := { name := "moneySums", fn := fun _ => fun
  | [d1, d2] => { results := [.lit (.bool false)], args := [d1, d2] }
  | _ => none }
def MoneySumsWrongFalsely : Prop := moneySumsRow.holds Try.pinned (OpenSpec.ofChange moneySumsWrong)

/-- 'mempoollaw1.MoneyUndoes': WHATEVER THE INPUT: true; the input reads as it did. -/
def moneyUndoesSpec : ChangeSpec := { name := "moneyUndoes", fn := fun _ => fun
  | [d1, d2] => { results := [.lit (.bool true)], args := [d1, d2] }
  | _ => none }
def moneyUndoesRow : OpenClaim := { program := "ytfinihdlkgnccaa", sum := "94dbdfb5b395c53dd88ed1ba20ebdf1803fa823f5a7995d8d3937d8be2e39b0f", func := "mempool/mempoollaw1.MoneyUndoes", spec := "moneyUndoes", inPlace := ["math/bits.Add64"], named := ["math/bits.divideError", "math/bits.overflowError"], apart := false }
def MoneyUndoesSaid : Prop := moneyUndoesRow.holds Try.pinned (OpenSpec.ofChange moneyUndoesSpec)

/-- ITS FALSE NEIGHBOUR: 'it returns false'. Refute it at one input. -/
def moneyUndoesWrong : ChangeSpec := { name := "moneyUndoes", fn := fun _ => fun
  | [d1, d2] => { results := [.lit (.bool false)], args := [d1, d2] }
  | _ => none }
def MoneyUndoesWrongFalsely : Prop := moneyUndoesRow.holds Try.pinned (OpenSpec.ofChange moneyUndoesWrong)

/-- 'mempoollaw1.MoneyBasics': WHATEVER THE INPUT: true; the input reads as it did. -/
def moneyBasicsSpec : ChangeSpec := { name := "moneyBasics", fn := fun _ => fun
  | [d1, d2] => { results := [.lit (.bool true)], args := [d1, d2] }
  | _ => none }
def moneyBasicsRow : OpenClaim := { program := "ytfinihdlkgnccaa", sum := "94dbdfb5b395c53dd88ed1ba20ebdf1803fa823f5a7995d8d3937d8be2e39b0f", func := "mempool/mempoollaw1.MoneyBasics", spec := "moneyBasics", inPlace := ["math/bits.Add64"], named := ["math/bits.divideError", "math/bits.overflowError"], apart := false }
def MoneyBasicsSaid : Prop := moneyBasicsRow.holds Try.pinned (OpenSpec.ofChange moneyBasicsSpec)

/-- ITS FALSE NEIGHBOUR: 'it returns false'. Refute it at one input. -/
def moneyBasicsWrong : ChangeSpec := { name := "moneyBasics", fn := fun _ => fun
  | [d1, d2] => { results := [.lit (.bool false)], args := [d1, d2] }
  | _ => none }
def MoneyBasicsWrongFalsely : Prop := moneyBasicsRow.holds Try.pinned (OpenSpec.ofChange moneyBasicsWrong)

/- THE SECOND FORM. 'bulk': how many values and letters a reading holds, each counted each time it is reached (what is shared counts as often as it is met; a slice's spare places count too). A statement '..UptoSaid' is the law's where the arguments, and the package variables that the reading takes, are together of bulk at most 1048576: NARROWER than '..Said'. Prove '..Said' where nothing that the law and all that it calls make is longer than what came in: it says more and counts as full. Else prove '..UptoSaid'. A law counts once. -/
mutual
def uptoBulk {H : Type} : DataW H → Nat
  | .lit (.string bytes) => bytes.length + 1
  | .lit _ => 1
  | .nil => 1
  | .ptr d => uptoBulk d + 1
  | .slice elems spare => uptoBulkAll elems + uptoBulkAll spare + 1
  | .agg parts => uptoBulkAll parts + 1
  | .iface _ d => uptoBulk d + 1
  | .map entries => uptoBulkEntries entries + 1
  | .held _ => 1
def uptoBulkAll {H : Type} : List (DataW H) → Nat
  | [] => 0
  | d :: r => uptoBulk d + uptoBulkAll r
def uptoBulkEntries {H : Type} : List (Lit × DataW H) → Nat
  | [] => 0
  | x :: r => uptoBulkEntry x + uptoBulkEntries r
def uptoBulkEntry {H : Type} : Lit × DataW H → Nat
  | (.string bytes, d) => bytes.length + uptoBulk d + 1
  | (_, d) => uptoBulk d + 1
 end
def uptoSmall : (H : Type) → List (DataW H) → Bool := fun _ ds => decide (uptoBulkAll ds ≤ 1048576)
def OpenSpec.upto (s : _root_.Go.ChangeSpec) : _root_.Go.OpenSpec := { _root_.Go.OpenSpec.ofChange s with cond := some uptoSmall }

/-- 'mempoollaw1.MoneyDivides', WHERE WHAT IT READS IS OF BULK AT MOST 1048576: true; the input reads as it did. -/
def moneyDividesUptoRow : OpenClaim := { program := "ytfinihdlkgnccaa", sum := "94dbdfb5b395c53dd88ed1ba20ebdf1803fa823f5a7995d8d3937d8be2e39b0f", func := "mempool/mempoollaw1.MoneyDivides", spec := "moneyDivides", inPlace := ["math/bits.Add64"], named := ["math/bits.divideError", "math/bits.overflowError"], apart := false, narrowed := true }
def MoneyDividesUptoSaid : Prop := moneyDividesUptoRow.holds Try.pinned (OpenSpec.upto moneyDividesSpec)

/-- 'mempoollaw1.MoneyQuotients', WHERE WHAT IT READS IS OF BULK AT MOST 1048576: true; the input reads as it did. -/
def moneyQuotientsUptoRow : OpenClaim := { program := "ytfinihdlkgnccaa", sum := "94dbdfb5b395c53dd88ed1ba20ebdf1803fa823f5a7995d8d3937d8be2e39b0f", func := "mempool/mempoollaw1.MoneyQuotients", spec := "moneyQuotients", inPlace := ["math/bits.Add64"], named := ["math/bits.divideError", "math/bits.overflowError"], apart := false, narrowed := true }
def MoneyQuotientsUptoSaid : Prop := moneyQuotientsUptoRow.holds Try.pinned (OpenSpec.upto moneyQuotientsSpec)

/-- 'mempoollaw1.MoneyExchanges', WHERE WHAT IT READS IS OF BULK AT MOST 1048576: true; the input reads as it did. -/
def moneyExchangesUptoRow : OpenClaim := { program := "ytfinihdlkgnccaa", sum := "94dbdfb5b395c53dd88ed1ba20ebdf1803fa823f5a7995d8d3937d8be2e39b0f", func := "mempool/mempoollaw1.MoneyExchanges", spec := "moneyExchanges", inPlace := ["math/bits.Add64"], named := ["math/bits.divideError", "math/bits.overflowError"], apart := false, narrowed := true }
def MoneyExchangesUptoSaid : Prop := moneyExchangesUptoRow.holds Try.pinned (OpenSpec.upto moneyExchangesSpec)

/-- 'mempoollaw1.MoneySums', WHERE WHAT IT READS IS OF BULK AT MOST 1048576: true; the input reads as it did. -/
def moneySumsUptoRow : OpenClaim := { program := "ytfinihdlkgnccaa", sum := "94dbdfb5b395c53dd88ed1ba20ebdf1803fa823f5a7995d8d3937d8be2e39b0f", func := "mempool/mempoollaw1.MoneySums", spec := "moneySums", inPlace := ["math/bits.Add64"], named := ["math/bits.divideError", "math/bits.overflowError"], apart := false, narrowed := true }
def MoneySumsUptoSaid : Prop := moneySumsUptoRow.holds Try.pinned (OpenSpec.upto moneySumsSpec)

/-- 'mempoollaw1.MoneyUndoes', WHERE WHAT IT READS IS OF BULK AT MOST 1048576: true; the input reads as it did. -/
def moneyUndoesUptoRow : OpenClaim := { program := "ytfinihdlkgnccaa", sum := "94dbdfb5b395c53dd88ed1ba20ebdf1803fa823f5a7995d8d3937d8be2e39b0f", func := "mempool/mempoollaw1.MoneyUndoes", spec := "moneyUndoes", inPlace := ["math/bits.Add64"], named := ["math/bits.divideError", "math/bits.overflowError"], apart := false, narrowed := true }
def MoneyUndoesUptoSaid : Prop := moneyUndoesUptoRow.holds Try.pinned (OpenSpec.upto moneyUndoesSpec)

/-- 'mempoollaw1.MoneyBasics', WHERE WHAT IT READS IS OF BULK AT MOST 1048576: true; the input reads as it did. -/
def moneyBasicsUptoRow : OpenClaim := { program := "ytfinihdlkgnccaa", sum := "94dbdfb5b395c53dd88ed1ba20ebdf1803fa823f5a7995d8d3937d8be2e39b0f", func := "mempool/mempoollaw1.MoneyBasics", spec := "moneyBasics", inPlace := ["math/bits.Add64"], named := ["math/bits.divideError", "math/bits.overflowError"], apart := false, narrowed := true }
def MoneyBasicsUptoSaid : Prop := moneyBasicsUptoRow.holds Try.pinned (OpenSpec.upto moneyBasicsSpec)

end Rows
end Go.Proofs.Ytfinihdlkgnccaa
