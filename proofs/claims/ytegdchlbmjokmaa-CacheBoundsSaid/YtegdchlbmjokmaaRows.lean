/-
  No cell of these rows narrows 'for every input' (looked for: loops, veiled, ifaces, maps, wideKeys, modest, calm, conditions, laid).
  DERIVED. THE GIVEN ROWS OF THIS SEAT. 4 by the template 'for every input the law returns true; each argument reads behind the call as it read before'; 0 by the template 'total and deterministic' (their statements: YtegdchlbmjokmaaTotals.lean).
  GIVEN WITH THE SEED: the statements are not yours to turn. If you find one false, say at which input.
  Laid BY PROGRAM, IN A SANDBOX (cutbox-rows.mjs): the forced cells as the released guide's own fill.sh prints them over the translation e9d2bd6aeea52510… (all of the seat's roots in one cut). By AI agents, Wed Nov 11 2026. No macro, syntax, notation, axiom, sorry.
-/
import Derived.Test.YtegdchlbmjokmaaChecked
import GoSem.Claim
import GoSem.ClaimJoined
import GoSem.ClaimMapViews
import Derived.JoinedTies
import Derived.KernelRfl
namespace Go.Proofs.Ytegdchlbmjokmaa
/- THE CELL 'sum', in the pinned program and in every row, IS THE sha256 OF THE DUMP (.gsa) THAT YtegdchlbmjokmaaProg.lean LOADS. Nothing in Lean hashes anything: it is a label: what it is worth is what the hold of that sum in a sandbox is worth. -/
noncomputable def Try.pinned : Pinned := { name := "ytegdchlbmjokmaa", sum := "e9d2bd6aeea525106126619e4b87b190253e34f488785122074333737b3eee54", checked := Try.checked }
namespace Rows
def none {H : Type} : Left H := { results := [], args := [] }

/-- 'mempoollaw8.CacheBounds': WHATEVER THE INPUT: true; the input reads as it did. -/
def cacheBoundsSpec : ChangeSpec := { name := "cacheBounds", fn := fun _ => fun
  | [d1, d2] => { results := [.lit (.bool true)], args := [d1, d2] }
  | _ => none }
def cacheBoundsRow : OpenClaim := { program := "ytegdchlbmjokmaa", sum := "e9d2bd6aeea525106126619e4b87b190253e34f488785122074333737b3eee54", func := "mempool/mempoollaw8.CacheBounds", spec := "cacheBounds", plainKeys := false, apart := false }
def CacheBoundsSaid : Prop := cacheBoundsRow.holds Try.pinned (OpenSpec.ofChange cacheBoundsSpec)

/-- ITS FALSE NEIGHBOUR: 'it returns false'. Refute it at one input. -/
def cacheBoundsWrong : ChangeSpec := { name := "cacheBounds", fn := fun _ => fun
  | [d1, d2] => { results := [.lit (.bool false)], args := [d1, d2] }
  | _ => none }
def CacheBoundsWrongFalsely : Prop := cacheBoundsRow.holds Try.pinned (OpenSpec.ofChange cacheBoundsWrong)

/-- 'mempoollaw8.CacheHas': WHATEVER THE INPUT: true; the input reads as it did. -/
def cacheHasSpec : ChangeSpec := { name := "cacheHas", fn := fun _ => fun
  | [d1, d2] => { results := [.lit (.bool true)], args := [d1, d2] }
  | _ => none }
def cacheHasRow : OpenClaim := { program := "ytegdchlbmjokmaa", sum := "e9d2bd6aeea525106126619e4b87b190253e34f488785122074333737b3eee54", func := "mempool/mempoollaw8.CacheHas", spec := "cacheHas", plainKeys := false, apart := false }
def CacheHasSaid : Prop := cacheHasRow.holds Try.pinned (OpenSpec.ofChange cacheHasSpec)

/-- ITS FALSE NEIGHBOUR: 'it returns false'. Refute it at one input. -/
def cacheHasWrong : ChangeSpec := { name := "cacheHas", fn := fun _ => fun
  | [d1, d2] => { results := [.lit (.bool false)], args := [d1, d2] }
  | _ => none }
def CacheHasWrongFalsely : Prop := cacheHasRow.holds Try.pinned (OpenSpec.ofChange cacheHasWrong)

/-- 'mempoollaw8.CachePlays': WHATEVER THE INPUT: true; the input reads as it did. -/
def cachePlaysSpec : ChangeSpec := { name := "cachePlays", fn := fun _ => fun
  | [d1, d2] => { results := [.lit (.bool true)], args := [d1, d2] }
  | _ => none }
def cachePlaysRow : OpenClaim := { program := "ytegdchlbmjokmaa", sum := "e9d2bd6aeea525106126619e4b87b190253e34f488785122074333737b3eee54", func := "mempool/mempoollaw8.CachePlays", spec := "cachePlays", plainKeys := false, apart := false }
def CachePlaysSaid : Prop := cachePlaysRow.holds Try.pinned (OpenSpec.ofChange cachePlaysSpec)

/-- ITS FALSE NEIGHBOUR: 'it returns false'. Refute it at one input. -/
def cachePlaysWrong : ChangeSpec := { name := "cachePlays", fn := fun _ => fun
  | [d1, d2] => { results := [.lit (.bool false)], args := [d1, d2] }
  | _ => none }
def CachePlaysWrongFalsely : Prop := cachePlaysRow.holds Try.pinned (OpenSpec.ofChange cachePlaysWrong)

/-- 'mempoollaw8.CacheLimits': WHATEVER THE INPUT: true; the input reads as it did. -/
def cacheLimitsSpec : ChangeSpec := { name := "cacheLimits", fn := fun _ => fun
  | [d] => { results := [.lit (.bool true)], args := [d] }
  | _ => none }
def cacheLimitsRow : OpenClaim := { program := "ytegdchlbmjokmaa", sum := "e9d2bd6aeea525106126619e4b87b190253e34f488785122074333737b3eee54", func := "mempool/mempoollaw8.CacheLimits", spec := "cacheLimits", plainKeys := false, apart := false }
def CacheLimitsSaid : Prop := cacheLimitsRow.holds Try.pinned (OpenSpec.ofChange cacheLimitsSpec)

/-- ITS FALSE NEIGHBOUR: 'it returns false'. Refute it at one input. -/
def cacheLimitsWrong : ChangeSpec := { name := "cacheLimits", fn := fun _ => fun
  | [d] => { results := [.lit (.bool false)], args := [d] }
  | _ => none }
def CacheLimitsWrongFalsely : Prop := cacheLimitsRow.holds Try.pinned (OpenSpec.ofChange cacheLimitsWrong)

/- THE SECOND FORM. 'bulk': how many values and letters a reading holds, each counted each time it is reached (what is shared counts as often as it is met; a slice's spare places count too). A statement '..UptoSaid' is the law's where the arguments, and the package variables that the reading takes, are together of bulk at most 1048576: NARROWER than '..Said'. Prove '..Said' where nothing that the law and all that it calls make is longer than what came in: it says more and counts as full. Else prove '..UptoSaid'. A law counts once. -/
mutual
def uptoBulk {H : Type} : DataW H → Nat
  | .lit (.string bytes) => bytes.length + 1
  | .lit _ => 1
  | .nil => 1
  | .ptr d => uptoBulk d + 1
  | .slice elems spare => uptoBulkAll elems + uptoBulkAll spare + 1
  | .agg parts => uptoBulkAll parts + 1
  | .iface _ d => uptoBulk d + 1
  | .map entries => uptoBulkEntries entries + 1
  | .held _ => 1
def uptoBulkAll {H : Type} : List (DataW H) → Nat
  | [] => 0
  | d :: r => uptoBulk d + uptoBulkAll r
def uptoBulkEntries {H : Type} : List (Lit × DataW H) → Nat
  | [] => 0
  | x :: r => uptoBulkEntry x + uptoBulkEntries r
def uptoBulkEntry {H : Type} : Lit × DataW H → Nat
  | (.string bytes, d) => bytes.length + uptoBulk d + 1
  | (_, d) => uptoBulk d + 1
 end
def uptoSmall : (H : Type) → List (DataW H) → Bool := fun _ ds => decide (uptoBulkAll ds ≤ 1048576)
def OpenSpec.upto (s : _root_.Go.ChangeSpec) : _root_.Go.OpenSpec := { _root_.Go.OpenSpec.ofChange s with cond := some uptoSmall }

/-- 'mempoollaw8.CacheBounds', WHERE WHAT IT READS IS OF BULK AT MOST 1048576: true; the input reads as it did. -/
def cacheBoundsUptoRow : OpenClaim := { program := "ytegdchlbmjokmaa", sum := "e9d2bd6aeea525106126619e4b87b190253e34f488785122074333737b3eee54", func := "mempool/mempoollaw8.CacheBounds", spec := "cacheBounds", plainKeys := false, apart := false, narrowed := true }
def CacheBoundsUptoSaid : Prop := cacheBoundsUptoRow.holds Try.pinned (OpenSpec.upto cacheBoundsSpec)

/-- 'mempoollaw8.CacheHas', WHERE WHAT IT READS IS OF BULK AT MOST 1048576: true; the input reads as it did. -/
def cacheHasUptoRow : OpenClaim := { program := "ytegdchlbmjokmaa", sum := "e9d2bd6aeea525106126619e4b87b190253e34f488785122074333737b3eee54", func := "mempool/mempoollaw8.CacheHas", spec := "cacheHas", plainKeys := false, apart := false, narrowed := true }
def CacheHasUptoSaid : Prop := cacheHasUptoRow.holds Try.pinned (OpenSpec.upto cacheHasSpec)

/-- 'mempoollaw8.CachePlays', WHERE WHAT IT READS IS OF BULK AT MOST 1048576: true; the input reads as it did. -/
def cachePlaysUptoRow : OpenClaim := { program := "ytegdchlbmjokmaa", sum := "e9d2bd6aeea525106126619e4b87b190253e34f488785122074333737b3eee54", func := "mempool/mempoollaw8.CachePlays", spec := "cachePlays", plainKeys := false, apart := false, narrowed := true }
def CachePlaysUptoSaid : Prop := cachePlaysUptoRow.holds Try.pinned (OpenSpec.upto cachePlaysSpec)

/-- 'mempoollaw8.CacheLimits', WHERE WHAT IT READS IS OF BULK AT MOST 1048576: true; the input reads as it did. -/
def cacheLimitsUptoRow : OpenClaim := { program := "ytegdchlbmjokmaa", sum := "e9d2bd6aeea525106126619e4b87b190253e34f488785122074333737b3eee54", func := "mempool/mempoollaw8.CacheLimits", spec := "cacheLimits", plainKeys := false, apart := false, narrowed := true }
def CacheLimitsUptoSaid : Prop := cacheLimitsUptoRow.holds Try.pinned (OpenSpec.upto cacheLimitsSpec)

end Rows
end Go.Proofs.Ytegdchlbmjokmaa
