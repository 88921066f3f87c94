/- MoneySums: for every input the call returns true, and each argument reads afterwards as it read before. -/
import Derived.Test.YtfinihdlkgnccaaClose
import Derived.Test.YtfinihdlkgnccaaMoneyW6
namespace Go.Proofs.Ytfinihdlkgnccaa.moneySums
open Go.ChangeShapes Go.WideShapes Go.ChangeAt Go.RowKit
set_option linter.unusedVariables false

theorem contract (H : Type) (enc : TypeId × Value → H) (W : World) (base : Nat) (args : Array Value) (ds gs : List (DataW H)) (before : List MemPlace)
    (hval0 : ∀ (j : Nat) t v, Try.f6.params[j]? = some t → args[j]? = some v → Value.okWide Try.prog W .any base t v)
    (hW : DataW.Whole enc Try.prog Try.f6.params.toList Rows.moneySumsSpec.vars false W args.toList ds gs before) :
    Calls Try.prog 6 args W fun e W' => ∃ v, e = .returned v ∧ Rows.moneySumsSpec.post enc Try.prog Try.f6 false true false false W args v W' := by
  have hval : ∀ (j : Nat) t v, Try.f6.params[j]? = some t → args[j]? = some v → Value.okWide Try.prog W .any base t v := hval0
  have hW' := hW
  obtain ⟨p, q, hA0, hV, rfl, hfz, hnd⟩ := hW
  have hA : DataW.TrodAll enc Try.prog W 0 (fun _ => true) true Try.f6.params.toList args.toList ds p := hA0
  rw [Try.params6] at hA hval
  obtain ⟨v0, vs0, d0, ds0, p0, q0, hargs, rfl, rfl, h0, r0⟩ := trodAll_cons hA
  obtain ⟨v1, vs1, d1, ds1, p1, q1, rfl, rfl, rfl, h1, r1⟩ := trodAll_cons r0
  obtain ⟨rfl, rfl, rfl⟩ := trodAll_nil r1
  obtain rfl : args = #[v0, v1] := by cases args; simp_all
  obtain ⟨rfl, rfl⟩ := trodVars_none hV
  clear hA0 hval0
  obtain ⟨ao, n, cap, b, off, g, rfl, hn, hao, hc, hwf, _⟩ := slice_ints Try.underlying32 Try.underlying22 (by kernel_rfl) (hval 0 32 v0 rfl rfl) h0
  obtain ⟨ao', n', cap', b', off', g', rfl, hn', hao', hc', hwf', _⟩ := slice_ints Try.underlying33 Try.underlying34 (by kernel_rfl) (hval 1 33 v1 rfl rfl) h1
  have hwalk : Calls Try.prog 6 #[.slice ao n cap, .slice ao' n' cap'] W fun e w' => e = .returned (.bool true) ∧ Below W.heap.size W w' := by
    by_cases hlong : 60 < n ∨ 60 < n'
    · exact sums_long ao n cap ao' n' cap' hn hn' hlong W
    · refine sums_any ao b off n cap (fun j => (g j).toNat) ao' b' off' n' cap' (fun j => (g' j).toNat) (by omega) (by omega) ?_ ?_ W hao ?_ hao' ?_
      · intro j hj
        obtain ⟨m, hm, hm2⟩ := u64_nat _ (hwf j hj)
        show (g j).toNat < _
        omega
      · intro j hj
        have h := hwf' j hj
        have : 0 ≤ g' j ∧ g' j ≤ 65535 := by simpa [Lit.wf, IntKind.min, IntKind.max, IntKind.signed, IntKind.bits] using h
        show (g' j).toNat < _
        omega
      · intro j hj
        obtain ⟨m, hm, hm2⟩ := u64_nat _ (hwf j hj)
        rw [hc j hj, show (((g j).toNat : Nat) : Int) = g j by omega]
      · intro j hj
        have h := hwf' j hj
        have : 0 ≤ g' j ∧ g' j ≤ 65535 := by simpa [Lit.wf, IntKind.min, IntKind.max, IntKind.signed, IntKind.bits] using h
        rw [hc' j hj, show (((g' j).toNat : Nat) : Int) = g' j by omega]
  refine (hwalk).mono fun e W' ⟨he, hg⟩ => ?_
  subst he
  exact ⟨_, rfl, law_post (tb := 4) (by intro t ht; have : t ∈ Try.f6.params.toList := ht; rw [Try.params6] at this; simp at this; rcases this with rfl | rfl <;> exact ⟨by kernel_rfl, of_decide_eq_true (by kernel_rfl)⟩) rfl rfl Try.underlying4 hW' rfl rfl rfl hg⟩

set_option maxRecDepth 100000 in
theorem lifted (os : Os) (started : os.Started) (H : Type) (enc : TypeId × Value → H) :
    ReturnsInHanded {} Try.checked os 6 .any (Rows.moneySumsSpec.pre6 enc Try.prog Try.f6 Rows.moneySumsRow.domain false) (Rows.moneySumsSpec.post enc Try.prog Try.f6 false true false false) := by
  refine returnsInHanded_of_change (C := Try.checked) own started (by kernel_rfl) Try.func6
    (ChangeSpec.witness6 (enc := enc) (C := Try.checked) false ⟨#[], #[.slice none 0 0, .slice none 0 0], []⟩ 8 (by kernel_rfl) (by kernel_rfl) (by kernel_rfl) (by kernel_rfl)) ?_
  intro W base args ds gs before hval0 hW hcnd _
  exact contract H enc W base args ds gs before hval0 hW

theorem over : Rows.moneySumsRow.holds Try.pinned (OpenSpec.ofChange Rows.moneySumsSpec) :=
  OpenClaim.holds_of_wide 6 Try.f6 rfl rfl rfl rfl rfl rfl rfl ⟨rfl, rfl, rfl, rfl, rfl⟩ rfl rfl rfl rfl rfl (by kernel_rfl) Try.func6 (by kernel_rfl)
    (of_decide_eq_true (by kernel_rfl)) (by unfold Func.isWrapper; first | (rw [if_pos (by decide +kernel)]; kernel_rfl) | (rw [if_neg (by decide +kernel)]; exact ⟨rfl, rfl⟩))
    (fun os started H enc _ => lifted os started H enc)

theorem proved : Rows.MoneySumsSaid :=
  over
#print axioms proved
end Go.Proofs.Ytfinihdlkgnccaa.moneySums
