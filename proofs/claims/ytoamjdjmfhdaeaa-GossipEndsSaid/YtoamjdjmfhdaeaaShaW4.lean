/- The program's function for one block of SHA-256. -/
import Derived.Test.YtoamjdjmfhdaeaaShaW3
namespace Go.Proofs.Ytoamjdjmfhdaeaa
open Go.RowKit
set_option linter.unusedVariables false
open ShaW Sha

theorem addM3 (a b c : Wd) : ((a.toNat : Int) + b.toNat + c.toNat) % 4294967296 = (((a + b) + c).toNat : Int) := by
  simp only [BitVec.toNat_add]; omega

end Go.Proofs.Ytoamjdjmfhdaeaa
