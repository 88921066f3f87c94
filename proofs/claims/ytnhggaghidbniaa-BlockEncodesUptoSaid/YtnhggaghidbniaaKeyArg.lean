/- An argument that is a key. -/
import Derived.Test.YtnhggaghidbniaaBytesArg
import Derived.WideKeyArr2
namespace Go.Proofs.Ytnhggaghidbniaa
open Go.ChangeShapes Go.WideShapes Go.ChangeAt Go.RowKit Go.WideMaps
set_option linter.unusedVariables false
set_option maxRecDepth 100000

theorem key_arr : ArrKey Try.prog 23 5 32 := ⟨Try.underlying23, by kernel_rfl, by kernel_rfl, by kernel_rfl⟩
theorem mapM_cells {H : Type} {enc : TypeId × Value → H} {P : Program} {e : TypeId} {q : IntKind} {W : World} {base : Nat} {sp : Nat → Bool} {held : Bool} (he : P.underlying e = some (.int q)) {m : Nat} {cs : List Value} {c : Nat} : ∀ (L : List Nat) (xs : List (DataW H × List MemPlace)),
    L.mapM (fun i => DataW.trod enc P W base sp held m e ((cs.drop (i * c)).take c)) = some xs → ∀ i ∈ L, ∃ a, (cs.drop (i * c)).take c = [.int q a] ∧ (Lit.int q a).wf = true
  | [], xs, h => by simp
  | j :: L, xs, h => by
    rw [List.mapM_cons] at h
    simp only [bind, Option.bind_eq_some_iff, pure, Option.some.injEq] at h
    obtain ⟨y, hy, ys, hys, rfl⟩ := h
    intro i hi
    rcases List.mem_cons.1 hi with rfl | hi
    · obtain ⟨a, ea, rfl, wa⟩ := DataW.trod_int he hy
      exact ⟨a, ea, wa⟩
    · exact mapM_cells he L ys hys i hi
theorem key_arg {H : Type} {enc : TypeId × Value → H} {W : World} {base : Nat} {v : Value} {d : DataW H} {p : List MemPlace}
    (hok : Value.okWide Try.prog W .any base 23 v) (h : DataW.Trod enc Try.prog W 0 (fun _ => true) true 23 v d p) :
    ∃ f : Nat → UInt8, v = .agg (bytesOf 32 f).toArray := by
  obtain ⟨xs, rfl, hn⟩ := okWide_arr key_arr hok
  obtain ⟨fuel, hf⟩ := h
  cases fuel with
  | zero => simp [DataW.trod] at hf
  | succ m =>
    rw [DataW.trod_step] at hf
    unfold DataW.trodStep at hf
    simp only [Try.underlying23, Value.cells] at hf
    rw [if_pos (by rw [key_arr.size]; simpa using hn)] at hf
    simp only [Option.map_eq_some_iff] at hf
    obtain ⟨ys, hy, e1⟩ := hf
    have hc := mapM_cells Try.underlying5 _ _ hy
    have hcell : ∀ i, i < 32 → ∃ a, xs.toList[i]? = some (.int .u8 a) ∧ (Lit.int .u8 a).wf = true := fun i hi => by
      obtain ⟨a, ea, wa⟩ := hc i (List.mem_range.2 hi)
      rw [show Try.prog.cellsOf 5 = 1 from by kernel_rfl, Nat.mul_one] at ea
      refine ⟨a, ?_, wa⟩
      have := congrArg (fun l => l[0]?) ea
      simpa using this
    refine ⟨fun i => match xs.toList[i]? with | some (.int _ a) => UInt8.ofNat a.toNat | _ => 0, ?_⟩
    congr 1
    apply Array.ext'
    refine List.ext_getElem? fun i => ?_
    rcases Nat.lt_or_ge i 32 with hi | hi
    · obtain ⟨a, ea, wa⟩ := hcell i hi
      rw [List.toList_toArray, bytesOf_get _ hi, ea]
      simp only []
      rw [u8_ofInt a wa]
    · rw [List.getElem?_eq_none (by simp; omega), List.getElem?_eq_none (by simp [bytesOf_length]; omega)]
end Go.Proofs.Ytnhggaghidbniaa
