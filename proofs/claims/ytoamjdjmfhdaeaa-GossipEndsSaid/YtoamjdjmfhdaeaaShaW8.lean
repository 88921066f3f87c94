/- sha.Sum, Len, and the methods of a nil Digest. -/
import Derived.Test.YtoamjdjmfhdaeaaShaW7
namespace Go.Proofs.Ytoamjdjmfhdaeaa
open Go.RowKit
set_option linter.unusedVariables false
open ShaW Sha

theorem ret_row {w : World} {b : Nat} {t : TypeId} {φ : Nat → Value} (h : w.rowIs b t 32 φ) : ∃ old, w.heap[b]? = some (.cells old t (0, 0)) ∧ old.size = 32 := by
  obtain ⟨cs, h1, h2, _⟩ := h
  exact ⟨cs, h1, h2⟩

end Go.Proofs.Ytoamjdjmfhdaeaa
