/- The digests of the document's example. -/
import Derived.Test.YtjiiaepmdlempaaShaSpec
namespace Go.Proofs.Ytjiiaepmdlempaa
set_option linter.unusedVariables false
open Sha

/-- the bytes of the example -/
def abc (j : Nat) : UInt8 := if j = 0 then 97 else if j = 1 then 98 else 99
theorem shaE_0 : sha 0 (fun _ => 0) 0 = 227 := by decide +kernel
theorem shaE_1 : sha 0 (fun _ => 0) 1 = 176 := by decide +kernel
theorem shaE_2 : sha 0 (fun _ => 0) 2 = 196 := by decide +kernel
theorem shaE_3 : sha 0 (fun _ => 0) 3 = 66 := by decide +kernel
theorem shaA_0 : sha 3 (abc) 0 = 186 := by decide +kernel
theorem shaA_1 : sha 3 (abc) 1 = 120 := by decide +kernel
theorem shaA_2 : sha 3 (abc) 2 = 22 := by decide +kernel
theorem shaA_3 : sha 3 (abc) 3 = 191 := by decide +kernel
end Go.Proofs.Ytjiiaepmdlempaa
