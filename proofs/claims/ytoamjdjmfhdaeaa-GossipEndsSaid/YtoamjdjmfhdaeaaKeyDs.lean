/- Distinct, of the program and of the reference. -/
import Derived.Test.YtoamjdjmfhdaeaaKeyIdx
namespace Go.Proofs.Ytoamjdjmfhdaeaa
open Go.RowKit
set_option linter.unusedVariables false
set_option linter.unusedSimpArgs false
open ShaW Sha

def k0 : Ky := fun _ => 0
/-- the first n keys differ -/
def distUp (ps : List Ky) : Nat → Bool
  | 0 => true
  | n + 1 => distUp ps n && !hasK (ps.take n) (ps.getD n k0)
def distK (ps : List Ky) : Bool := distUp ps ps.length
/-- how many different ones are among the first n -/
def cntUp (ps : List Ky) : Nat → Nat
  | 0 => 0
  | n + 1 => if hasK (ps.take n) (ps.getD n k0) = true then cntUp ps n else cntUp ps n + 1
theorem cntUp_le (ps : List Ky) : ∀ n, cntUp ps n ≤ n
  | 0 => Nat.le_refl _
  | n + 1 => by have := cntUp_le ps n; unfold cntUp; split <;> omega
theorem cntUp_eq (ps : List Ky) : ∀ n, decide (cntUp ps n = n) = distUp ps n
  | 0 => rfl
  | n + 1 => by
    have ih := cntUp_eq ps n
    have hl := cntUp_le ps n
    unfold cntUp distUp
    rw [← ih]
    cases hasK (ps.take n) (ps.getD n k0) with
    | true => simp; omega
    | false => simp
theorem distUp_false (ps : List Ky) : ∀ {n m : Nat}, n ≤ m → distUp ps n = false → distUp ps m = false
  | n, 0, h, hf => by obtain rfl : n = 0 := by omega
                      exact hf
  | n, m + 1, h, hf => by
    rcases Nat.lt_or_ge n (m + 1) with h1 | h1
    · unfold distUp
      rw [distUp_false ps (n := n) (m := m) (by omega) hf]; rfl
    · obtain rfl : n = m + 1 := by omega
      exact hf
theorem hasK_snoc (ps : List Ky) (x k : Ky) : hasK (ps ++ [x]) k = (hasK ps k || keyEq x k) := by
  unfold hasK; rw [List.any_append]; simp
theorem take_snoc {ps : List Ky} {n : Nat} {x : Ky} (h : ps[n]? = some x) : ps.take (n + 1) = ps.take n ++ [x] := by
  obtain ⟨hlt, e⟩ := List.getElem?_eq_some_iff.1 h
  rw [List.take_succ_eq_append_getElem hlt, e]
theorem getD_of {ps : List Ky} {n : Nat} {x : Ky} (h : ps[n]? = some x) : ps.getD n k0 = x := by rw [List.getD_eq_getElem?_getD, h]; rfl


/-- block b is a set of the first n keys -/
def SetAt (W : World) (b n : Nat) (ps : List Ky) : Prop :=
  ∃ D : DataW Unit, W.ownsMap Try.prog 41 unitElem b n D ∧ (∀ k, Maps.has D (klit k) = hasK (ps.take n) k) ∧ Maps.size D = cntUp ps n
theorem SetAt.kept {W W' : World} {b n : Nat} {ps : List Ky} (h : SetAt W b n ps) (hb : Below W.heap.size W W') : SetAt W' b n ps := by
  obtain ⟨D, h1, h2, h3⟩ := h
  exact ⟨D, h1.kept (below_grownBy hb none) (by simp), h2, h3⟩
theorem set_put {D : DataW Unit} {ps : List Ky} {n : Nat} {kk : Ky} (hm : Maps.IsMap D) (ht : Maps.Tidy D) (hkk : ps[n]? = some kk) (h2 : ∀ k, Maps.has D (klit k) = hasK (ps.take n) k) (h3 : Maps.size D = cntUp ps n) :
    (∀ k, Maps.has (D.put (klit kk) (.agg [])) (klit k) = hasK (ps.take (n + 1)) k) ∧ Maps.size (D.put (klit kk) (.agg [])) = cntUp ps (n + 1) := by
  refine ⟨fun k => ?_, ?_⟩
  · rw [take_snoc hkk, hasK_snoc, ← h2 k]
    cases he : keyEq kk k with
    | true => rw [← klit_congr he, Maps.has_put_same hm (klit_key kk), Bool.or_true]
    | false => rw [Maps.has_put_other (Ne.symm (klit_ne he)), Bool.or_false]
  · rw [Maps.size_put ht, h2 kk, h3]
    show _ = if hasK (ps.take n) (ps.getD n k0) = true then cntUp ps n else cntUp ps n + 1
    rw [getD_of hkk]

end Go.Proofs.Ytoamjdjmfhdaeaa
