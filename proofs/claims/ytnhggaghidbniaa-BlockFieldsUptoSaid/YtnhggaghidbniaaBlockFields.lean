/- BlockFields: for every input the call returns true, and each argument reads afterwards as it read before; the bulk of the arguments is at most 1048576. -/
import Derived.Test.YtnhggaghidbniaaClose
import Derived.Test.YtnhggaghidbniaaBlkArg
import Derived.Test.YtnhggaghidbniaaBlkF
namespace Go.Proofs.Ytnhggaghidbniaa.blockFields
open Go.ChangeShapes Go.WideShapes Go.ChangeAt Go.RowKit
set_option linter.unusedVariables false
set_option maxRecDepth 100000
open ShaW Sha Wir
theorem contract (H : Type) (enc : TypeId × Value → H) (W : World) (base : Nat) (args : Array Value) (ds gs : List (DataW H)) (before : List MemPlace)
    (hval0 : ∀ (j : Nat) t v, Try.f5.params[j]? = some t → args[j]? = some v → Value.okWide Try.prog W .any base t v)
    (hW : DataW.Whole enc Try.prog Try.f5.params.toList Rows.blockFieldsSpec.vars false W args.toList ds gs before) (hk : Rows.uptoSmall H (ds ++ gs) = true) :
    Calls Try.prog 5 args W fun e W' => ∃ v, e = .returned v ∧ Rows.blockFieldsSpec.post enc Try.prog Try.f5 false true false false W args v W' := by
  have hval : ∀ (j : Nat) t v, Try.f5.params[j]? = some t → args[j]? = some v → Value.okWide Try.prog W .any base t v := hval0
  have hW' := hW
  obtain ⟨p, q, hA0, hV, rfl, hfz, hnd⟩ := hW
  have hA : DataW.TrodAll enc Try.prog W 0 (fun _ => true) true Try.f5.params.toList args.toList ds p := hA0
  rw [Try.params5] at hA hval
  obtain ⟨v0, vs0, d0, ds0, p0, q0, hargs, rfl, rfl, h0, r0⟩ := trodAll_cons hA
  obtain ⟨v1, vs1, d1, ds1, p1, q1, rfl, rfl, rfl, h1, r1⟩ := trodAll_cons r0
  obtain ⟨v2, vs2, d2, ds2, p2, q2, rfl, rfl, rfl, h2, r2⟩ := trodAll_cons r1
  obtain ⟨v3, vs3, d3, ds3, p3, q3, rfl, rfl, rfl, h3, r3⟩ := trodAll_cons r2
  obtain ⟨rfl, rfl, rfl⟩ := trodAll_nil r3
  obtain rfl : args = #[v0, v1, v2, v3] := by cases args; simp_all
  obtain ⟨rfl, rfl⟩ := trodVars_none hV
  obtain ⟨a1, rfl, rfl, rfl, w1⟩ := open_int Try.underlying5 (hval 1 5 v1 rfl rfl) h1
  obtain ⟨a2, rfl, rfl, rfl, w2⟩ := open_int Try.underlying5 (hval 2 5 v2 rfl rfl) h2
  obtain ⟨a3, rfl, rfl, rfl, w3⟩ := open_int Try.underlying45 (hval 3 45 v3 rfl rfl) h3
  clear hA0 hval0
  obtain ⟨y, tv, txs, hy, rfl, htx, htl, htb⟩ := bl_arg (hval 0 28 v0 rfl rfl) h0
  have b1 : 0 ≤ a1 ∧ a1 ≤ 255 := by simpa [Lit.wf, IntKind.min, IntKind.max, IntKind.signed, IntKind.bits] using w1
  obtain ⟨n1, rfl⟩ : ∃ q : Nat, a1 = (q : Int) := ⟨a1.toNat, by omega⟩
  have b2 : 0 ≤ a2 ∧ a2 ≤ 255 := by simpa [Lit.wf, IntKind.min, IntKind.max, IntKind.signed, IntKind.bits] using w2
  obtain ⟨n2, rfl⟩ : ∃ q : Nat, a2 = (q : Int) := ⟨a2.toNat, by omega⟩
  have b3 : 0 ≤ a3 ∧ a3 ≤ 18446744073709551615 := by simpa [Lit.wf, IntKind.min, IntKind.max, IntKind.signed, IntKind.bits] using w3
  obtain ⟨n3, rfl⟩ : ∃ q : Nat, a3 = (q : Int) := ⟨a3.toNat, by omega⟩
  have hsm : Rows.uptoBulkAll [d0, _, _, _] ≤ 1048576 := of_decide_eq_true hk
  simp only [Rows.uptoBulkAll] at hsm
  have hb1 := lenSum_all (k := 1048576) txs (fun b hb => by have := htb b hb; omega)
  have hb2 : txs.length ≤ 1048576 := by omega
  have hb3 : txs.length * 1048576 ≤ 1048576 * 1048576 := Nat.mul_le_mul_right _ hb2
  have hsz : lenSum txs + txs.length ≤ 4611686018427387904 := by omega
  refine (blockFields_any W y hy tv txs htx hsz n1 n2 n3 (by omega) (by omega) (by omega)).mono fun e W' ⟨he, hg⟩ => ?_
  subst he
  exact ⟨_, rfl, law_post (tb := 4) (by intro t ht; have : t ∈ Try.f5.params.toList := ht; rw [Try.params5] at this; simp at this; rcases this with rfl | rfl | rfl <;> exact ⟨by kernel_rfl, of_decide_eq_true (by kernel_rfl)⟩) rfl rfl Try.underlying4 hW' rfl rfl rfl hg⟩

set_option maxRecDepth 100000 in
theorem lifted (os : Os) (started : os.Started) (H : Type) (enc : TypeId × Value → H) (F : Stop.Interp) :
    ReturnsInHanded {} Try.checked os 5 .any ((Rows.OpenSpec.upto Rows.blockFieldsSpec).pre6 enc Try.prog Try.f5 Rows.blockFieldsUptoRow.domain false) (((Rows.OpenSpec.upto Rows.blockFieldsSpec).at F).post enc Try.prog Try.f5 false true false false) := by
  refine returnsInHanded_of_cond (C := Try.checked) (s := Rows.OpenSpec.upto Rows.blockFieldsSpec) (k := Rows.uptoSmall) rfl own started (by kernel_rfl) Try.func5
    (OpenSpec.witness (enc := enc) (C := Try.checked) (s := Rows.OpenSpec.upto Rows.blockFieldsSpec) (k := Rows.uptoSmall) rfl false ⟨#[], #[.agg (#[.int .i64 0, .int .i64 0, .int .i64 0] ++ Array.replicate 128 (.int .u8 0) ++ #[.slice none 0 0]), .int .u8 0, .int .u8 0, .int .u64 0], []⟩ 8 (by kernel_rfl) (by kernel_rfl) (by kernel_rfl)
      (x := ([.agg [.agg ([.lit (.int .i64 0), .lit (.int .i64 0), .lit (.int .i64 0)] ++ List.replicate 4 (.agg (List.replicate 32 (.lit (.int .u8 0))))), .nil], .lit (.int .u8 0), .lit (.int .u8 0), .lit (.int .u64 0)], [], [])) (by kernel_rfl) rfl (by kernel_rfl)) ?_
  intro W base args ds gs before hval hW _ hk _
  exact contract H enc W base args ds gs before hval hW hk

theorem over : Rows.blockFieldsUptoRow.holds Try.pinned (Rows.OpenSpec.upto Rows.blockFieldsSpec) :=
  OpenClaim.holds_of_cond 5 Try.f5 rfl rfl rfl rfl rfl rfl rfl ⟨rfl, rfl, rfl, rfl, rfl⟩ rfl rfl rfl rfl rfl (by kernel_rfl) Try.func5 (by kernel_rfl)
    (of_decide_eq_true (by kernel_rfl)) (by unfold Func.isWrapper; first | (rw [if_pos (by decide +kernel)]; kernel_rfl) | (rw [if_neg (by decide +kernel)]; exact ⟨rfl, rfl⟩))
    (fun os started H enc _ F => lifted os started H enc F)

theorem proved : Rows.BlockFieldsUptoSaid :=
  over
#print axioms proved
end Go.Proofs.Ytnhggaghidbniaa.blockFields
