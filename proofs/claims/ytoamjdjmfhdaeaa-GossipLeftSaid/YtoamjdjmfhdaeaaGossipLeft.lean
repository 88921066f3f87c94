/- GossipLeft: for every input the call returns true, and each argument reads afterwards as it read before. -/
import Derived.Test.YtoamjdjmfhdaeaaClose
import Derived.SizedLaws
import Derived.Test.YtoamjdjmfhdaeaaEntsArg
import Derived.Test.YtoamjdjmfhdaeaaIntsArg
import Derived.Test.YtoamjdjmfhdaeaaGosL
namespace Go.Proofs.Ytoamjdjmfhdaeaa.gossipLeft
open Go.ChangeShapes Go.WideShapes Go.ChangeAt Go.RowKit
set_option linter.unusedVariables false
open ShaW Sha
theorem contract (H : Type) (enc : TypeId × Value → H) (W : World) (base : Nat) (args : Array Value) (ds gs : List (DataW H)) (before : List MemPlace)
    (hval0 : ∀ (j : Nat) t v, Try.f4.params[j]? = some t → args[j]? = some v → Value.okWide Try.prog W .any base t v)
    (hW : DataW.Whole enc Try.prog Try.f4.params.toList Rows.gossipLeftSpec.vars false W args.toList ds gs before) (hrz : (DataW.weightsEach Try.prog (Try.f4.params.toList ++ Rows.gossipLeftSpec.plain.varTypes Try.prog) (ds ++ gs)).all (· ≤ reachBytes) = true) :
    Calls Try.prog 4 args W fun e W' => ∃ v, e = .returned v ∧ Rows.gossipLeftSpec.post enc Try.prog Try.f4 false true false false W args v W' := by
  have hval : ∀ (j : Nat) t v, Try.f4.params[j]? = some t → args[j]? = some v → Value.okWide Try.prog W .any base t v := hval0
  have hW' := hW
  obtain ⟨p, q, hA0, hV, rfl, hfz, hnd⟩ := hW
  have hA : DataW.TrodAll enc Try.prog W 0 (fun _ => true) true Try.f4.params.toList args.toList ds p := hA0
  rw [Try.params4] at hA hval
  obtain ⟨v0, vs0, d0, ds0, p0, q0, hargs, rfl, rfl, h0, r0⟩ := trodAll_cons hA
  obtain ⟨v1, vs1, d1, ds1, p1, q1, rfl, rfl, rfl, h1, r1⟩ := trodAll_cons r0
  obtain ⟨v2, vs2, d2, ds2, p2, q2, rfl, rfl, rfl, h2, r2⟩ := trodAll_cons r1
  obtain ⟨v3, vs3, d3, ds3, p3, q3, rfl, rfl, rfl, h3, r3⟩ := trodAll_cons r2
  obtain ⟨rfl, rfl, rfl⟩ := trodAll_nil r3
  obtain rfl : args = #[v0, v1, v2, v3] := by cases args; simp_all
  obtain ⟨rfl, rfl⟩ := trodVars_none hV
  obtain ⟨a3, rfl, rfl, rfl, w3⟩ := open_int Try.underlying3 (hval 3 3 v3 rfl rfl) h3
  clear hA0 hval0
  have hwq : ∀ x ∈ d0.weights Try.prog 22, x ≤ 140737488351232 := fun x hx => by
    have h := List.all_eq_true.1 hrz x (List.mem_append_left _ hx)
    exact of_decide_eq_true h
  obtain ⟨A, m, c, l, rfl, hE, hm, hl⟩ := ents_arg (hval 0 22 v0 rfl rfl) h0 hwq
  obtain ⟨A', m', c', ps, rfl, hK⟩ := keys_arg (hval 1 23 v1 rfl rfl) h1
  obtain ⟨ao, n, cap, f, rfl, hI⟩ := slice_intsAt (hval 2 24 v2 rfl rfl) h2
  refine (gossipLeft_any W A m c l hE hm hl A' m' c' ps hK (Nat.le_trans hK.2.1 hK.2.2.1) ao n cap f hI a3).mono fun e W' ⟨he, hg⟩ => ?_
  subst he
  exact ⟨_, rfl, law_post (tb := 4) (by intro t ht; have : t ∈ Try.f4.params.toList := ht; rw [Try.params4] at this; simp at this; rcases this with rfl | rfl | rfl | rfl <;> exact ⟨by kernel_rfl, of_decide_eq_true (by kernel_rfl)⟩) rfl rfl Try.underlying4 hW' rfl rfl rfl hg⟩

set_option maxRecDepth 100000 in
theorem lifted (os : Os) (started : os.Started) (H : Type) (enc : TypeId × Value → H) :
    ReturnsInHanded {} Try.checked os 4 .any (Rows.gossipLeftSpec.pre6 enc Try.prog Try.f4 Rows.gossipLeftRow.domain false) (Rows.gossipLeftSpec.post enc Try.prog Try.f4 false true false false) := by
  refine returnsInHanded_of_change_sized (C := Try.checked) own started (by kernel_rfl) Try.func4
    (ChangeSpec.witness6 (enc := enc) (C := Try.checked) false ⟨#[], #[.slice none 0 0, .slice none 0 0, .slice none 0 0, .int .i64 0], []⟩ 8 (by kernel_rfl) (by kernel_rfl) (by kernel_rfl) (by kernel_rfl)) ?_
  intro W base args ds gs before hval0 hW hcnd hrz _
  exact contract H enc W base args ds gs before hval0 hW hrz

theorem over : Rows.gossipLeftRow.holds Try.pinned (OpenSpec.ofChange Rows.gossipLeftSpec) :=
  OpenClaim.holds_of_wide 4 Try.f4 rfl rfl rfl rfl rfl rfl rfl ⟨rfl, rfl, rfl, rfl, rfl⟩ rfl rfl rfl rfl rfl (by kernel_rfl) Try.func4 (by kernel_rfl)
    (of_decide_eq_true (by kernel_rfl)) (by unfold Func.isWrapper; first | (rw [if_pos (by decide +kernel)]; kernel_rfl) | (rw [if_neg (by decide +kernel)]; exact ⟨rfl, rfl⟩))
    (fun os started H enc _ => lifted os started H enc)

theorem proved : Rows.GossipLeftSaid :=
  over
#print axioms proved
end Go.Proofs.Ytoamjdjmfhdaeaa.gossipLeft
