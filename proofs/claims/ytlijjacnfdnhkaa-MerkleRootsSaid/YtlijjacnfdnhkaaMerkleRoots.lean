/- MerkleRoots: for every input the call returns true, and each argument reads afterwards as it read before. -/
import Derived.Test.YtlijjacnfdnhkaaClose
import Derived.SizedLaws
import Derived.Test.YtlijjacnfdnhkaaRowsArg
import Derived.Test.YtlijjacnfdnhkaaKeyArg
import Derived.Test.YtlijjacnfdnhkaaMerRt
namespace Go.Proofs.Ytlijjacnfdnhkaa.merkleRoots
open Go.ChangeShapes Go.WideShapes Go.ChangeAt Go.RowKit
set_option linter.unusedVariables false
open ShaW Sha
theorem contract (H : Type) (enc : TypeId × Value → H) (W : World) (base : Nat) (args : Array Value) (ds gs : List (DataW H)) (before : List MemPlace)
    (hval0 : ∀ (j : Nat) t v, Try.f3.params[j]? = some t → args[j]? = some v → Value.okWide Try.prog W .any base t v)
    (hW : DataW.Whole enc Try.prog Try.f3.params.toList Rows.merkleRootsSpec.vars false W args.toList ds gs before) (hrz : (DataW.weightsEach Try.prog (Try.f3.params.toList ++ Rows.merkleRootsSpec.plain.varTypes Try.prog) (ds ++ gs)).all (· ≤ reachBytes) = true) :
    Calls Try.prog 3 args W fun e W' => ∃ v, e = .returned v ∧ Rows.merkleRootsSpec.post enc Try.prog Try.f3 false true false false W args v W' := by
  have hval : ∀ (j : Nat) t v, Try.f3.params[j]? = some t → args[j]? = some v → Value.okWide Try.prog W .any base t v := hval0
  have hW' := hW
  obtain ⟨p, q, hA0, hV, rfl, hfz, hnd⟩ := hW
  have hA : DataW.TrodAll enc Try.prog W 0 (fun _ => true) true Try.f3.params.toList args.toList ds p := hA0
  rw [Try.params3] at hA hval
  obtain ⟨v0, vs0, d0, ds0, p0, q0, hargs, rfl, rfl, h0, r0⟩ := trodAll_cons hA
  obtain ⟨v1, vs1, d1, ds1, p1, q1, rfl, rfl, rfl, h1, r1⟩ := trodAll_cons r0
  obtain ⟨v2, vs2, d2, ds2, p2, q2, rfl, rfl, rfl, h2, r2⟩ := trodAll_cons r1
  obtain ⟨v3, vs3, d3, ds3, p3, q3, rfl, rfl, rfl, h3, r3⟩ := trodAll_cons r2
  obtain ⟨v4, vs4, d4, ds4, p4, q4, rfl, rfl, rfl, h4, r4⟩ := trodAll_cons r3
  obtain ⟨rfl, rfl, rfl⟩ := trodAll_nil r4
  obtain rfl : args = #[v0, v1, v2, v3, v4] := by cases args; simp_all
  obtain ⟨rfl, rfl⟩ := trodVars_none hV
  obtain ⟨a4, rfl, rfl, rfl, w4⟩ := open_int Try.underlying5 (hval 4 5 v4 rfl rfl) h4
  clear hA0 hval0
  have hw0 : ∀ x ∈ d0.weights Try.prog 22, x ≤ 140737488351232 := by
    intro x hx
    have hrz' := hrz
    rw [Try.params3] at hrz'
    simp only [List.cons_append, List.nil_append, DataW.weightsEach, List.all_append, Bool.and_eq_true, List.all_eq_true] at hrz'
    have := hrz'.1 x hx
    exact of_decide_eq_true this
  obtain ⟨ao0, n0, cap0, RL, RF, rfl, hrows0, hRL0⟩ := rows_arg Try.underlying22 Try.underlying25 Try.underlying5 (by kernel_rfl) (by kernel_rfl) (hval 0 22 v0 rfl rfl) h0 (by kernel_rfl) hw0
  obtain ⟨ka, rfl⟩ := key_arg (hval 1 24 v1 rfl rfl) h1
  obtain ⟨kb, rfl⟩ := key_arg (hval 2 24 v2 rfl rfl) h2
  obtain ⟨ao, n, cap, bb, off, f, rfl, hnc, hcm, hao, hc, hbk⟩ := slice_bytes Try.underlying25 Try.underlying5 (by kernel_rfl) (hval 3 25 v3 rfl rfl) h3
  obtain ⟨x0, x1⟩ := u8_wf a4 w4
  obtain ⟨x, rfl⟩ : ∃ q : Nat, a4 = (q : Int) := ⟨a4.toNat, by omega⟩
  unfold maxLen at hcm
  refine (merRoots_any W ao0 ao n0 cap0 n cap bb off RL RF ka kb f x (by omega) hrows0 hRL0 hnc (by omega) hao hc).mono fun e W' ⟨he, hg⟩ => ?_
  subst he
  exact ⟨_, rfl, law_post (tb := 4) (by intro t ht; have : t ∈ Try.f3.params.toList := ht; rw [Try.params3] at this; simp at this; rcases this with rfl | rfl | rfl | rfl <;> exact ⟨by kernel_rfl, of_decide_eq_true (by kernel_rfl)⟩) rfl rfl Try.underlying4 hW' rfl rfl rfl hg⟩

set_option maxRecDepth 100000 in
theorem lifted (os : Os) (started : os.Started) (H : Type) (enc : TypeId × Value → H) :
    ReturnsInHanded {} Try.checked os 3 .any (Rows.merkleRootsSpec.pre6 enc Try.prog Try.f3 Rows.merkleRootsRow.domain false) (Rows.merkleRootsSpec.post enc Try.prog Try.f3 false true false false) := by
  refine returnsInHanded_of_change_sized (C := Try.checked) own started (by kernel_rfl) Try.func3
    (ChangeSpec.witness6 (enc := enc) (C := Try.checked) false ⟨#[], #[.slice none 0 0, .agg (Array.replicate 32 (.int .u8 0)), .agg (Array.replicate 32 (.int .u8 0)), .slice none 0 0, .int .u8 0], []⟩ 8 (by kernel_rfl) (by kernel_rfl) (by kernel_rfl) (by kernel_rfl)) ?_
  intro W base args ds gs before hval0 hW hcnd hrz _
  exact contract H enc W base args ds gs before hval0 hW hrz

theorem over : Rows.merkleRootsRow.holds Try.pinned (OpenSpec.ofChange Rows.merkleRootsSpec) :=
  OpenClaim.holds_of_wide 3 Try.f3 rfl rfl rfl rfl rfl rfl rfl ⟨rfl, rfl, rfl, rfl, rfl⟩ rfl rfl rfl rfl rfl (by kernel_rfl) Try.func3 (by kernel_rfl)
    (of_decide_eq_true (by kernel_rfl)) (by unfold Func.isWrapper; first | (rw [if_pos (by decide +kernel)]; kernel_rfl) | (rw [if_neg (by decide +kernel)]; exact ⟨rfl, rfl⟩))
    (fun os started H enc _ => lifted os started H enc)

theorem proved : Rows.MerkleRootsSaid :=
  over
#print axioms proved
end Go.Proofs.Ytlijjacnfdnhkaa.merkleRoots
