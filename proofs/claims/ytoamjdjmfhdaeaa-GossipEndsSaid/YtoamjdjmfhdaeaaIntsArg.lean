/- An argument that is a slice of ints, as the walks take it. -/
import Derived.Test.YtoamjdjmfhdaeaaClose
import Derived.Test.YtoamjdjmfhdaeaaNumb
namespace Go.Proofs.Ytoamjdjmfhdaeaa
open Go.ChangeShapes Go.WideShapes Go.ChangeAt Go.RowKit
set_option linter.unusedVariables false
theorem slice_intsAt {H : Type} {enc : TypeId × Value → H} {W : World} {base : Nat} {v : Value} {d : DataW H} {p : List MemPlace}
    (hok : Value.okWide Try.prog W .any base 24 v) (h : DataW.Trod enc Try.prog W 0 (fun _ => true) true 24 v d p) :
    ∃ ao n cap f, v = .slice ao n cap ∧ IntsAt W W.heap.size ao n cap f := by
  have h0 := h
  obtain ⟨ao, n, cap, rfl⟩ := okWide_slice Try.underlying24 hok
  obtain ⟨fuel, hf⟩ := h
  rcases open_ints Try.underlying24 Try.underlying3 (by kernel_rfl) hf with ⟨hcs, hx⟩ | ⟨a, len', cap', zs, hcs, _, hl, hm, hz, hx, hcell, hwz⟩
  · simp [Value.cells] at hcs
    obtain ⟨rfl, rfl, rfl⟩ := hcs
    exact ⟨none, 0, 0, fun _ => 0, rfl, by omega, by omega, 0, 0, by omega, by omega, by omega⟩
  · simp [Value.cells] at hcs
    obtain ⟨rfl, rfl, rfl⟩ := hcs
    simp at hz
    unfold maxLen at hm
    by_cases h0 : n = 0
    · subst h0
      exact ⟨some a, 0, cap, fun _ => 0, rfl, by omega, by omega, 0, 0, by omega, by omega, by omega⟩
    · obtain ⟨b, off, rfl, hcc⟩ := ints_at hcell (by omega)
      refine ⟨_, n, cap, fun j => zs.getD j 0, rfl, hl, by omega, b, off, fun _ => ⟨rfl, ?_⟩, fun j hj => hcc j (by omega), fun j hj => ?_⟩
      · exact World.block_lt_of_cell? W _ (hcc 0 (by omega))
      · have hjl : j < zs.length := by omega
        have := hwz (zs.getD j 0) (by simp [List.getD_eq_getElem?_getD, hjl])
        simpa [Lit.wf, IntKind.min, IntKind.max, IntKind.signed, IntKind.bits] using this
end Go.Proofs.Ytoamjdjmfhdaeaa
