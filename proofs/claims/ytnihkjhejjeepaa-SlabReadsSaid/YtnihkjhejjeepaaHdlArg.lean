/- An argument that is a handle. -/
import Derived.Test.YtnihkjhejjeepaaBytesArg
import Derived.ChangeSame
namespace Go.Proofs.Ytnihkjhejjeepaa
open Go.ChangeShapes Go.WideShapes Go.ChangeAt Go.RowKit
set_option linter.unusedVariables false
theorem hdl_arg {H : Type} {enc : TypeId × Value → H} {W : World} {base : Nat} {v : Value} {d : DataW H} {p : List MemPlace}
    (hok : Value.okWide Try.prog W .any base 43 v) (h : DataW.Trod enc Try.prog W 0 (fun _ => true) true 43 v d p) :
    ∃ s u, v = .agg #[.int .i64 s, .int .i64 u] ∧ (-9223372036854775808 ≤ s ∧ s ≤ 9223372036854775807) ∧ (-9223372036854775808 ≤ u ∧ u ≤ 9223372036854775807) := by
  obtain ⟨cs, rfl, hsz⟩ := okWide_struct Try.underlying43 hok
  obtain ⟨fuel, hf⟩ := h
  obtain ⟨y0, y1, n, _, hl, h0, h1⟩ := trod_struct2 Try.underlying43 hf
  obtain ⟨a, ea, _, wa⟩ := DataW.trod_int Try.underlying3 h0
  obtain ⟨b, eb, _, wb⟩ := DataW.trod_int Try.underlying3 h1
  have e1 : Try.prog.cellsOf 3 = 1 := by kernel_rfl
  have e2 : Try.prog.cellsOf 43 = 2 := by kernel_rfl
  rw [e2] at hsz
  rw [e1] at ea eb
  refine ⟨a, b, ?_, by simpa [Lit.wf, IntKind.min, IntKind.max, IntKind.signed, IntKind.bits] using wa, by simpa [Lit.wf, IntKind.min, IntKind.max, IntKind.signed, IntKind.bits] using wb⟩
  obtain ⟨l⟩ := cs
  congr 1
  match l, hsz with
  | [x, y], _ =>
    simp [Value.cells] at ea eb
    rw [ea, eb]
end Go.Proofs.Ytnihkjhejjeepaa
