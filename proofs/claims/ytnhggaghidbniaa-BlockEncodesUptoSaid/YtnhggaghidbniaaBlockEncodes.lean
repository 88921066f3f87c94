/- BlockEncodes: for every input the call returns true, and each argument reads afterwards as it read before; the bulk of the arguments is at most 1048576. -/
import Derived.Test.YtnhggaghidbniaaClose
import Derived.Test.YtnhggaghidbniaaBlkArg
import Derived.Test.YtnhggaghidbniaaBlkE
namespace Go.Proofs.Ytnhggaghidbniaa.blockEncodes
open Go.ChangeShapes Go.WideShapes Go.ChangeAt Go.RowKit
set_option linter.unusedVariables false
set_option maxRecDepth 100000
open ShaW Sha Wir
theorem contract (H : Type) (enc : TypeId × Value → H) (W : World) (base : Nat) (args : Array Value) (ds gs : List (DataW H)) (before : List MemPlace)
    (hval0 : ∀ (j : Nat) t v, Try.f3.params[j]? = some t → args[j]? = some v → Value.okWide Try.prog W .any base t v)
    (hW : DataW.Whole enc Try.prog Try.f3.params.toList Rows.blockEncodesSpec.vars false W args.toList ds gs before) (hk : Rows.uptoSmall H (ds ++ gs) = true) :
    Calls Try.prog 3 args W fun e W' => ∃ v, e = .returned v ∧ Rows.blockEncodesSpec.post enc Try.prog Try.f3 false true false false W args v W' := by
  have hval : ∀ (j : Nat) t v, Try.f3.params[j]? = some t → args[j]? = some v → Value.okWide Try.prog W .any base t v := hval0
  have hW' := hW
  obtain ⟨p, q, hA0, hV, rfl, hfz, hnd⟩ := hW
  have hA : DataW.TrodAll enc Try.prog W 0 (fun _ => true) true Try.f3.params.toList args.toList ds p := hA0
  rw [Try.params3] at hA hval
  obtain ⟨v0, vs0, d0, ds0, p0, q0, hargs, rfl, rfl, h0, r0⟩ := trodAll_cons hA
  obtain ⟨v1, vs1, d1, ds1, p1, q1, rfl, rfl, rfl, h1, r1⟩ := trodAll_cons r0
  obtain ⟨rfl, rfl, rfl⟩ := trodAll_nil r1
  obtain rfl : args = #[v0, v1] := by cases args; simp_all
  obtain ⟨rfl, rfl⟩ := trodVars_none hV
  obtain ⟨a1, rfl, rfl, rfl, w1⟩ := open_int Try.underlying3 (hval 1 3 v1 rfl rfl) h1
  clear hA0 hval0
  obtain ⟨y, tv, txs, hy, rfl, htx, htl, htb⟩ := bl_arg (hval 0 28 v0 rfl rfl) h0
  have b1 : -9223372036854775808 ≤ a1 ∧ a1 ≤ 9223372036854775807 := by simpa [Lit.wf, IntKind.min, IntKind.max, IntKind.signed, IntKind.bits] using w1
  have hsm : Rows.uptoBulkAll [d0, _] ≤ 1048576 := of_decide_eq_true hk
  simp only [Rows.uptoBulkAll] at hsm
  have hb1 := lenSum_all (k := 1048576) txs (fun b hb => by have := htb b hb; omega)
  have hb2 : txs.length ≤ 1048576 := by omega
  have hb3 : txs.length * 1048576 ≤ 1048576 * 1048576 := Nat.mul_le_mul_right _ hb2
  have hsz : lenSum txs + txs.length ≤ 4611686018427387904 := by omega
  refine (blockEncodes_any W y hy tv txs htx hsz a1 b1.1 b1.2).mono fun e W' ⟨he, hg⟩ => ?_
  subst he
  exact ⟨_, rfl, law_post (tb := 4) (by intro t ht; have : t ∈ Try.f3.params.toList := ht; rw [Try.params3] at this; simp at this; rcases this with rfl | rfl <;> exact ⟨by kernel_rfl, of_decide_eq_true (by kernel_rfl)⟩) rfl rfl Try.underlying4 hW' rfl rfl rfl hg⟩

set_option maxRecDepth 100000 in
theorem lifted (os : Os) (started : os.Started) (H : Type) (enc : TypeId × Value → H) (F : Stop.Interp) :
    ReturnsInHanded {} Try.checked os 3 .any ((Rows.OpenSpec.upto Rows.blockEncodesSpec).pre6 enc Try.prog Try.f3 Rows.blockEncodesUptoRow.domain false) (((Rows.OpenSpec.upto Rows.blockEncodesSpec).at F).post enc Try.prog Try.f3 false true false false) := by
  refine returnsInHanded_of_cond (C := Try.checked) (s := Rows.OpenSpec.upto Rows.blockEncodesSpec) (k := Rows.uptoSmall) rfl own started (by kernel_rfl) Try.func3
    (OpenSpec.witness (enc := enc) (C := Try.checked) (s := Rows.OpenSpec.upto Rows.blockEncodesSpec) (k := Rows.uptoSmall) rfl false ⟨#[], #[.agg (#[.int .i64 0, .int .i64 0, .int .i64 0] ++ Array.replicate 128 (.int .u8 0) ++ #[.slice none 0 0]), .int .i64 0], []⟩ 8 (by kernel_rfl) (by kernel_rfl) (by kernel_rfl)
      (x := ([.agg [.agg ([.lit (.int .i64 0), .lit (.int .i64 0), .lit (.int .i64 0)] ++ List.replicate 4 (.agg (List.replicate 32 (.lit (.int .u8 0))))), .nil], .lit (.int .i64 0)], [], [])) (by kernel_rfl) rfl (by kernel_rfl)) ?_
  intro W base args ds gs before hval hW _ hk _
  exact contract H enc W base args ds gs before hval hW hk

theorem over : Rows.blockEncodesUptoRow.holds Try.pinned (Rows.OpenSpec.upto Rows.blockEncodesSpec) :=
  OpenClaim.holds_of_cond 3 Try.f3 rfl rfl rfl rfl rfl rfl rfl ⟨rfl, rfl, rfl, rfl, rfl⟩ rfl rfl rfl rfl rfl (by kernel_rfl) Try.func3 (by kernel_rfl)
    (of_decide_eq_true (by kernel_rfl)) (by unfold Func.isWrapper; first | (rw [if_pos (by decide +kernel)]; kernel_rfl) | (rw [if_neg (by decide +kernel)]; exact ⟨rfl, rfl⟩))
    (fun os started H enc _ F => lifted os started H enc F)

theorem proved : Rows.BlockEncodesUptoSaid :=
  over
#print axioms proved
end Go.Proofs.Ytnhggaghidbniaa.blockEncodes
