/- JournalAppends: for every input the call returns true, and each argument reads afterwards as it read before; the bulk of the arguments is at most 1048576. -/
import Derived.Test.YtjiiaepmdlempaaClose
import Derived.Test.YtjiiaepmdlempaaBytesArg
import Derived.Test.YtjiiaepmdlempaaJourAp
namespace Go.Proofs.Ytjiiaepmdlempaa.journalAppends
open Go.ChangeShapes Go.WideShapes Go.ChangeAt Go.RowKit
set_option linter.unusedVariables false
open ShaW Sha
theorem contract (H : Type) (enc : TypeId × Value → H) (W : World) (base : Nat) (args : Array Value) (ds gs : List (DataW H)) (before : List MemPlace)
    (hval0 : ∀ (j : Nat) t v, Try.f3.params[j]? = some t → args[j]? = some v → Value.okWide Try.prog W .any base t v)
    (hW : DataW.Whole enc Try.prog Try.f3.params.toList Rows.journalAppendsSpec.vars false W args.toList ds gs before) (hk : Rows.uptoSmall H (ds ++ gs) = true) :
    Calls Try.prog 3 args W fun e W' => ∃ v, e = .returned v ∧ Rows.journalAppendsSpec.post enc Try.prog Try.f3 false true false false W args v W' := by
  have hval : ∀ (j : Nat) t v, Try.f3.params[j]? = some t → args[j]? = some v → Value.okWide Try.prog W .any base t v := hval0
  have hW' := hW
  obtain ⟨p, q, hA0, hV, rfl, hfz, hnd⟩ := hW
  have hA : DataW.TrodAll enc Try.prog W 0 (fun _ => true) true Try.f3.params.toList args.toList ds p := hA0
  rw [Try.params3] at hA hval
  obtain ⟨v0, vs0, d0, ds0, p0, q0, hargs, rfl, rfl, h0, r0⟩ := trodAll_cons hA
  obtain ⟨v1, vs1, d1, ds1, p1, q1, rfl, rfl, rfl, h1, r1⟩ := trodAll_cons r0
  obtain ⟨v2, vs2, d2, ds2, p2, q2, rfl, rfl, rfl, h2, r2⟩ := trodAll_cons r1
  obtain ⟨rfl, rfl, rfl⟩ := trodAll_nil r2
  obtain rfl : args = #[v0, v1, v2] := by cases args; simp_all
  obtain ⟨rfl, rfl⟩ := trodVars_none hV
  clear hA0 hval0
  obtain ⟨Ax, nx, cx, bx, ox, fx, rfl, hncx, hcmx, hAx, hcx, hbkx⟩ := slice_bytes Try.underlying22 Try.underlying5 (by kernel_rfl) (hval 0 22 v0 rfl rfl) h0
  obtain ⟨Aq, nq, cq, bq, oq, fq, rfl, hncq, hcmq, hAq, hcq, hbkq⟩ := slice_bytes Try.underlying22 Try.underlying5 (by kernel_rfl) (hval 1 22 v1 rfl rfl) h1
  obtain ⟨Az, nz, cz, bz, oz, RAz, RLz, RCz, RFz, rfl, hncz, hcmz, hAz, hrowz, hbkz⟩ := slice_rows Try.underlying23 Try.underlying22 Try.underlying5 (by kernel_rfl) (by kernel_rfl) (hval 2 23 v2 rfl rfl) h2
  have hsm : Rows.uptoBulkAll [d0, d1, d2] ≤ 1048576 := of_decide_eq_true hk
  simp only [Rows.uptoBulkAll] at hsm
  have hFx : Reads W W.heap.size 1 Ax nx (bytesOf nx fx) := Reads.flat (fun h => ⟨hAx h, World.block_lt_of_cell? W _ (hcx 0 h)⟩) hcx
  have hFq : Reads W W.heap.size 1 Aq nq (bytesOf nq fq) := Reads.flat (fun h => ⟨hAq h, World.block_lt_of_cell? W _ (hcq 0 h)⟩) hcq
  have hRz : RowsB W (.slice Az nz cz) nz RLz RFz := ⟨_, _, bz, oz, rfl, hAz, fun r hr => ⟨_, _, (hrowz r hr).1, (hrowz r hr).2.2.2.1⟩⟩
  refine (jourAppends_any W Ax Aq nx cx nq cq fx fq _ nz RLz RFz hFx hFq hRz (by omega) (by omega) (by omega) (fun r hr => by have := (hrowz r hr).2.2.2.2; omega)).mono fun e W' ⟨he, hg⟩ => ?_
  subst he
  exact ⟨_, rfl, law_post (tb := 4) (by intro t ht; have : t ∈ Try.f3.params.toList := ht; rw [Try.params3] at this; simp at this; rcases this with rfl | rfl <;> exact ⟨by kernel_rfl, of_decide_eq_true (by kernel_rfl)⟩) rfl rfl Try.underlying4 hW' rfl rfl rfl hg⟩

set_option maxRecDepth 100000 in
theorem lifted (os : Os) (started : os.Started) (H : Type) (enc : TypeId × Value → H) (F : Stop.Interp) :
    ReturnsInHanded {} Try.checked os 3 .any ((Rows.OpenSpec.upto Rows.journalAppendsSpec).pre6 enc Try.prog Try.f3 Rows.journalAppendsUptoRow.domain false) (((Rows.OpenSpec.upto Rows.journalAppendsSpec).at F).post enc Try.prog Try.f3 false true false false) := by
  refine returnsInHanded_of_cond (C := Try.checked) (s := Rows.OpenSpec.upto Rows.journalAppendsSpec) (k := Rows.uptoSmall) rfl own started (by kernel_rfl) Try.func3
    (OpenSpec.witness (enc := enc) (C := Try.checked) (s := Rows.OpenSpec.upto Rows.journalAppendsSpec) (k := Rows.uptoSmall) rfl false ⟨#[], #[.slice none 0 0, .slice none 0 0, .slice none 0 0], []⟩ 8 (by kernel_rfl) (by kernel_rfl) (by kernel_rfl)
      (x := ([.nil, .nil, .nil], [], [])) (by kernel_rfl) rfl (by kernel_rfl)) ?_
  intro W base args ds gs before hval hW _ hk _
  exact contract H enc W base args ds gs before hval hW hk

theorem over : Rows.journalAppendsUptoRow.holds Try.pinned (Rows.OpenSpec.upto Rows.journalAppendsSpec) :=
  OpenClaim.holds_of_cond 3 Try.f3 rfl rfl rfl rfl rfl rfl rfl ⟨rfl, rfl, rfl, rfl, rfl⟩ rfl rfl rfl rfl rfl (by kernel_rfl) Try.func3 (by kernel_rfl)
    (of_decide_eq_true (by kernel_rfl)) (by unfold Func.isWrapper; first | (rw [if_pos (by decide +kernel)]; kernel_rfl) | (rw [if_neg (by decide +kernel)]; exact ⟨rfl, rfl⟩))
    (fun os started H enc _ F => lifted os started H enc F)

theorem proved : Rows.JournalAppendsUptoSaid :=
  over
#print axioms proved
end Go.Proofs.Ytjiiaepmdlempaa.journalAppends
