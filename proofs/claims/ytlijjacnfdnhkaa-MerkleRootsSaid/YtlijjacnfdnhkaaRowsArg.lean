/- An argument that is a list of byte slices, within the form's reach. -/
import Derived.Test.YtlijjacnfdnhkaaBytesArg
import Derived.Test.YtlijjacnfdnhkaaMerMany
namespace Go.Proofs.Ytlijjacnfdnhkaa
open Go.ChangeShapes Go.WideShapes Go.ChangeAt Go.RowKit Go.Deep
set_option linter.unusedVariables false

theorem weightsAll_mem {H : Type} {P : Program} {e : TypeId} : ∀ (l : List (DataW H)) (d : DataW H), d ∈ l → ∀ x, x ∈ d.weights P e → x ∈ DataW.weightsAll P e l
  | [], d, h, x, hx => by simp at h
  | y :: r, d, h, x, hx => by
    unfold DataW.weightsAll
    rw [List.mem_append]
    rcases List.mem_cons.1 h with rfl | h
    · exact .inl hx
    · exact .inr (weightsAll_mem r d h x hx)

theorem rows_arg {H : Type} {enc : TypeId × Value → H} {W : World} {base : Nat} {t e q : TypeId} {v : Value} {d : DataW H} {p : List MemPlace}
    (ht : Try.prog.underlying t = some (.slice e)) (he : Try.prog.underlying e = some (.slice q)) (hq : Try.prog.underlying q = some (.int .u8)) (ce : Try.prog.cellsOf e = 1) (cq : Try.prog.cellsOf q = 1)
    (hok : Value.okWide Try.prog W .any base t v) (h : DataW.Trod enc Try.prog W 0 (fun _ => true) true t v d p) (bq : Try.prog.bytesOf q = 1) (hw : ∀ x ∈ d.weights Try.prog t, x ≤ 140737488351232) :
    ∃ ao n cap, ∃ (L : Nat → Nat) (F : Nat → Nat → UInt8), v = .slice ao n cap ∧ RowsL W ao n cap L F ∧ ∀ r, r < n → L r ≤ 140737488355328 := by
  obtain ⟨ao, n, cap, rfl⟩ := okWide_slice ht hok
  obtain ⟨fuel, hf⟩ := h
  rcases open_int_rows ht he hq ce cq hf with ⟨hcs, hx⟩ | ⟨a, len', cap', A, L, C, Z, hcs, _, hl, hm, hx, hrow⟩
  · simp [Value.cells] at hcs
    obtain ⟨rfl, rfl, rfl⟩ := hcs
    exact ⟨none, 0, 0, fun _ => 0, fun _ _ => 0, rfl, ⟨by omega, by omega, 0, 0, by omega, by omega⟩, by omega⟩
  · simp [Value.cells] at hcs
    obtain ⟨rfl, rfl, rfl⟩ := hcs
    have hd : d = .slice ((List.range n).map fun r => intRow .u8 (A r) (L r) (Z r)) ((List.range (cap - n)).map fun j => intRow .u8 (A (n + j)) (L (n + j)) (Z (n + j))) := by simpa using congrArg Prod.fst hx
    unfold maxLen at hm
    by_cases h0 : n = 0
    · subst h0
      exact ⟨some a, 0, cap, L, fun _ _ => 0, rfl, ⟨hl, by omega, 0, 0, by omega, by omega⟩, by omega⟩
    · obtain ⟨b, off, spot⟩ := a
      have h00 := (hrow 0 (by omega)).1
      have hspot : spot = none := by simpa [Addr.add] using World.cell?_spot h00
      subst hspot
      refine ⟨_, n, cap, L, fun r j => UInt8.ofNat ((Z r).getD j 0).toNat, rfl, ⟨hl, by omega, b, off, fun _ => rfl, fun r hr => ?_⟩, fun r hr => ?_⟩
      · obtain ⟨h1, h2, h3, h4, h5, h6, h7⟩ := hrow r (by omega)
        unfold maxLen at h3
        rw [add_flat] at h1
        refine ⟨A r, C r, h1, ⟨by simp [bytesOf_length], fun hL => ?_⟩, by omega⟩
        · have hA : ∃ a', A r = some a' := by
            cases hA : A r with
            | none => have := h6 hA; omega
            | some a' => exact ⟨a', rfl⟩
          obtain ⟨a', ha'⟩ := hA
          obtain ⟨_, hcl⟩ := h7 a' ha'
          refine ⟨a', ha', ?_, ?_⟩
          · exact World.block_lt_of_cell? W _ (by simpa [Addr.add] using hcl 0 (by omega))
          · intro j u hu
            have hj : j < L r := by
              rcases Nat.lt_or_ge j (L r) with h | h
              · exact h
              · rw [List.getElem?_eq_none (by rw [bytesOf_length]; omega)] at hu; cases hu
            rw [bytesOf_get _ hj] at hu
            injection hu with hu
            subst hu
            rw [hcl j (by omega), u8_ofInt _ (h5 _ ?_)]
            have hjl : j < (Z r).length := by omega
            simp [List.getD_eq_getElem?_getD, hjl]
      · obtain ⟨h1, h2, h3, h4, h5, h6, h7⟩ := hrow r (by omega)
        cases hA : A r with
        | none => have := h6 hA; omega
        | some a' =>
          have hin : ((lits (H := H) .u8 ((Z r).take (L r))).length + (lits (H := H) .u8 ((Z r).drop (L r))).length) * 1 ∈ d.weights Try.prog t := by
            rw [hd]
            unfold DataW.weights
            rw [ht]
            simp only [List.mem_cons, List.mem_append]
            right; left
            have hmem : intRow (H := H) .u8 (A r) (L r) (Z r) ∈ (List.range n).map fun r => intRow (H := H) .u8 (A r) (L r) (Z r) := List.mem_map.2 ⟨r, List.mem_range.2 hr, rfl⟩
            refine weightsAll_mem _ _ hmem _ ?_
            unfold intRow
            rw [hA]
            simp only []
            unfold DataW.weights
            rw [he]
            simp only [List.mem_cons]
            left
            rw [bq]
          have := hw _ hin
          have e : (lits (H := H) .u8 ((Z r).take (L r))).length = L r := by simp [lits]; omega
          omega
end Go.Proofs.Ytlijjacnfdnhkaa
