/- Arguments that are slices of bytes, and slices of these. -/
import Derived.Test.YtnhggaghidbniaaClose
import Derived.Test.YtnhggaghidbniaaApp
import Derived.Deep.Matrix
namespace Go.Proofs.Ytnhggaghidbniaa
open Go.ChangeShapes Go.WideShapes Go.ChangeAt Go.RowKit Go.Deep
set_option linter.unusedVariables false
set_option maxRecDepth 100000

theorem bulk_pos {H : Type} (d : DataW H) : 1 ≤ Rows.uptoBulk d := by
  cases d with
  | lit l => cases l <;> simp [Rows.uptoBulk]
  | _ => simp [Rows.uptoBulk]
theorem bulk_len {H : Type} : ∀ l : List (DataW H), l.length ≤ Rows.uptoBulkAll l
  | [] => by simp [Rows.uptoBulkAll]
  | d :: r => by
    have h1 := bulk_pos d
    have h2 := bulk_len r
    simp only [List.length_cons, Rows.uptoBulkAll]
    omega
theorem bulk_mem {H : Type} : ∀ (l : List (DataW H)) (d : DataW H), d ∈ l → Rows.uptoBulk d ≤ Rows.uptoBulkAll l
  | [], d, h => by simp at h
  | x :: r, d, h => by
    simp only [Rows.uptoBulkAll]
    rcases List.mem_cons.1 h with rfl | h
    · omega
    · have := bulk_mem r d h
      omega
theorem u8_wf (a : Int) (h : (Lit.int .u8 a).wf = true) : 0 ≤ a ∧ a < 256 := by
  have : 0 ≤ a ∧ a ≤ 255 := by simpa [Lit.wf, IntKind.min, IntKind.max, IntKind.signed, IntKind.bits] using h
  omega
theorem u8_ofInt (a : Int) (h : (Lit.int .u8 a).wf = true) : (((UInt8.ofNat a.toNat).toNat : Nat) : Int) = a := by
  have := u8_wf a h
  rw [UInt8.toNat_ofNat', Nat.mod_eq_of_lt (by omega)]
  omega

theorem slice_bytes {H : Type} {enc : TypeId × Value → H} {W : World} {base : Nat} {t e : TypeId} {v : Value} {d : DataW H} {p : List MemPlace}
    (ht : Try.prog.underlying t = some (.slice e)) (he : Try.prog.underlying e = some (.int .u8)) (hc : Try.prog.cellsOf e = 1)
    (hok : Value.okWide Try.prog W .any base t v) (h : DataW.Trod enc Try.prog W 0 (fun _ => true) true t v d p) :
    ∃ ao n cap b off, ∃ f : Nat → UInt8, v = .slice ao n cap ∧ n ≤ cap ∧ cap ≤ maxLen ∧ (0 < n → ao = some ⟨b, off, none⟩) ∧ (∀ j, j < n → W.cell? ⟨b, off + j, none⟩ = some (.int .u8 ((f j).toNat : Int))) ∧
      n ≤ Rows.uptoBulk d := by
  obtain ⟨ao, n, cap, rfl⟩ := okWide_slice ht hok
  obtain ⟨fuel, hf⟩ := h
  rcases open_ints ht he hc hf with ⟨hcs, hx⟩ | ⟨a, len', cap', zs, hcs, _, hl, hm, hz, hx, hcell, hwz⟩
  · simp [Value.cells] at hcs
    obtain ⟨rfl, rfl, rfl⟩ := hcs
    exact ⟨none, 0, 0, 0, 0, fun _ => 0, rfl, by omega, by unfold maxLen; omega, by omega, by omega, by omega⟩
  · simp [Value.cells] at hcs
    obtain ⟨rfl, rfl, rfl⟩ := hcs
    simp at hz
    have hd : d = .slice (lits .u8 (zs.take n)) (lits .u8 (zs.drop n)) := by simpa using congrArg Prod.fst hx
    have hbk : n ≤ Rows.uptoBulk d := by
      rw [hd]
      have := bulk_len (H := H) (lits .u8 (zs.take n))
      simp only [Rows.uptoBulk]
      have e : (lits (H := H) .u8 (zs.take n)).length = n := by simp [lits]; omega
      omega
    by_cases h0 : n = 0
    · subst h0
      exact ⟨some a, 0, cap, 0, 0, fun _ => 0, rfl, hl, hm, by omega, by omega, hbk⟩
    · obtain ⟨b, off, rfl, hcc⟩ := ints_at hcell (by omega)
      refine ⟨_, n, cap, b, off, fun j => UInt8.ofNat (zs.getD j 0).toNat, rfl, hl, hm, fun _ => rfl, fun j hj => ?_, hbk⟩
      rw [hcc j (by omega), u8_ofInt _ (hwz _ ?_)]
      have hjl : j < zs.length := by omega
      simp [List.getD_eq_getElem?_getD, hjl]

theorem slice_rows {H : Type} {enc : TypeId × Value → H} {W : World} {base : Nat} {t e q : TypeId} {v : Value} {d : DataW H} {p : List MemPlace}
    (ht : Try.prog.underlying t = some (.slice e)) (he : Try.prog.underlying e = some (.slice q)) (hq : Try.prog.underlying q = some (.int .u8)) (ce : Try.prog.cellsOf e = 1) (cq : Try.prog.cellsOf q = 1)
    (hok : Value.okWide Try.prog W .any base t v) (h : DataW.Trod enc Try.prog W 0 (fun _ => true) true t v d p) :
    ∃ ao n cap b off, ∃ (A : Nat → Option Addr) (L C : Nat → Nat) (F : Nat → Nat → UInt8), v = .slice ao n cap ∧ n ≤ cap ∧ cap ≤ maxLen ∧ (0 < n → ao = some ⟨b, off, none⟩) ∧
      (∀ r, r < n → W.cell? ⟨b, off + r, none⟩ = some (.slice (A r) (L r) (C r)) ∧ L r ≤ C r ∧ C r ≤ maxLen ∧ Reads W W.heap.size 1 (A r) (L r) (bytesOf (L r) (F r)) ∧ L r ≤ Rows.uptoBulk d) ∧
      n ≤ Rows.uptoBulk d := by
  obtain ⟨ao, n, cap, rfl⟩ := okWide_slice ht hok
  obtain ⟨fuel, hf⟩ := h
  rcases open_int_rows ht he hq ce cq hf with ⟨hcs, hx⟩ | ⟨a, len', cap', A, L, C, Z, hcs, _, hl, hm, hx, hrow⟩
  · simp [Value.cells] at hcs
    obtain ⟨rfl, rfl, rfl⟩ := hcs
    exact ⟨none, 0, 0, 0, 0, fun _ => none, fun _ => 0, fun _ => 0, fun _ _ => 0, rfl, by omega, by unfold maxLen; omega, by omega, by omega, by omega⟩
  · simp [Value.cells] at hcs
    obtain ⟨rfl, rfl, rfl⟩ := hcs
    have hd : d = .slice ((List.range n).map fun r => intRow .u8 (A r) (L r) (Z r)) ((List.range (cap - n)).map fun j => intRow .u8 (A (n + j)) (L (n + j)) (Z (n + j))) := by simpa using congrArg Prod.fst hx
    have hbk : n ≤ Rows.uptoBulk d := by
      rw [hd]
      have := bulk_len ((List.range n).map fun r => intRow (H := H) .u8 (A r) (L r) (Z r))
      simp only [Rows.uptoBulk]
      rw [List.length_map, List.length_range] at this
      omega
    by_cases h0 : n = 0
    · subst h0
      exact ⟨some a, 0, cap, 0, 0, A, L, C, fun _ _ => 0, rfl, hl, hm, by omega, by omega, hbk⟩
    · obtain ⟨b, off, spot⟩ := a
      have h00 := (hrow 0 (by omega)).1
      have hspot : spot = none := by simpa [Addr.add] using World.cell?_spot h00
      subst hspot
      refine ⟨_, n, cap, b, off, A, L, C, fun r j => UInt8.ofNat ((Z r).getD j 0).toNat, rfl, hl, hm, fun _ => rfl, fun r hr => ?_, hbk⟩
      obtain ⟨h1, h2, h3, h4, h5, h6, h7⟩ := hrow r (by omega)
      rw [add_flat] at h1
      refine ⟨h1, h2, h3, ⟨by simp [bytesOf_length], fun hL => ?_⟩, ?_⟩
      · have hA : ∃ a', A r = some a' := by
          cases hA : A r with
          | none => have := h6 hA; omega
          | some a' => exact ⟨a', rfl⟩
        obtain ⟨a', ha'⟩ := hA
        obtain ⟨_, hcl⟩ := h7 a' ha'
        refine ⟨a', ha', ?_, ?_⟩
        · exact World.block_lt_of_cell? W _ (by simpa [Addr.add] using hcl 0 (by omega))
        · intro j u hu
          have hj : j < L r := by
            rcases Nat.lt_or_ge j (L r) with h | h
            · exact h
            · rw [List.getElem?_eq_none (by rw [bytesOf_length]; omega)] at hu; cases hu
          rw [bytesOf_get _ hj] at hu
          injection hu with hu
          subst hu
          rw [hcl j (by omega), u8_ofInt _ (h5 _ ?_)]
          have hjl : j < (Z r).length := by omega
          simp [List.getD_eq_getElem?_getD, hjl]
      · rw [hd]
        have hm1 := bulk_mem ((List.range n).map fun r => intRow (H := H) .u8 (A r) (L r) (Z r)) (intRow .u8 (A r) (L r) (Z r)) (List.mem_map.2 ⟨r, List.mem_range.2 hr, rfl⟩)
        simp only [Rows.uptoBulk]
        have hm2 : L r ≤ Rows.uptoBulk (intRow (H := H) .u8 (A r) (L r) (Z r)) := by
          unfold intRow
          cases hA : A r with
          | none => have := h6 hA; simp only []; omega
          | some a' =>
            have := bulk_len (H := H) (lits .u8 ((Z r).take (L r)))
            have e : (lits (H := H) .u8 ((Z r).take (L r))).length = L r := by simp [lits]; omega
            simp only [Rows.uptoBulk]
            omega
        omega
end Go.Proofs.Ytnhggaghidbniaa
