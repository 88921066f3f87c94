/- Lists of byte slices of the call's own. -/
import Derived.Test.YtnhggaghidbniaaShaW8
namespace Go.Proofs.Ytnhggaghidbniaa
open Go.RowKit
set_option linter.unusedVariables false
open ShaW Sha

theorem owns_below {w w' : World} {base : Nat} {e : TypeId} {size n : Nat} {v : Value} {xs : List Value} (h : w.ownsRow base e size v n xs) (hb : Below w.heap.size w w') : w'.ownsRow base e size v n xs := by
  refine h.kept (below_grownBy hb none) ?_
  rcases hv : v.ownBlock with _ | g
  · exact .inl rfl
  · exact .inr (by simp)
theorem owns_blk {w : World} {base : Nat} {e : TypeId} {size n : Nat} {v : Value} {xs : List Value} (h : w.ownsRow base e size v n xs) {g : Nat} (hg : v.ownBlock = some g) : ∃ cs, Blk w g e cs := by
  rcases h.2 with ⟨rfl, _⟩ | ⟨g', cap, cur, rfl, _, hb, _⟩
  · cases hg
  · injection hg with hg; subst hg; exact ⟨cur, hb⟩
/-- a row of another type stands where a row of the call's own turns -/
theorem owns_apart {w w' : World} {base base' : Nat} {e e' : TypeId} {size size' n n' : Nat} {v v' : Value} {xs xs' : List Value} (h : w.ownsRow base e size v n xs) (h' : w.ownsRow base' e' size' v' n' xs') (hne : e ≠ e') (hg : w.grownBy w' v'.ownBlock) :
    w'.ownsRow base e size v n xs := by
  refine h.kept hg ?_
  rcases hv : v'.ownBlock with _ | g
  · rcases hv2 : v.ownBlock with _ | g2
    · exact .inl rfl
    · exact .inr (by simp)
  · obtain ⟨cs, hcs⟩ := owns_blk h' hv
    exact .inr (own_blk_ne h hcs hne)
/-- v is a list of n byte slices of the call's own -/
def ListB (w : World) (base : Nat) (v : Value) (n : Nat) (L : Nat → Nat) (F : Nat → Nat → UInt8) : Prop :=
  ∃ xs, w.ownsRow base 33 1 v n xs ∧ ∀ r, r < n → ∃ u, xs[r]? = some u ∧ w.ownsRow base 5 1 u (L r) (bytesOf (L r) (F r))
theorem ListB.below {w w' : World} {base n : Nat} {v : Value} {L : Nat → Nat} {F : Nat → Nat → UInt8} (h : ListB w base v n L F) (hb : Below w.heap.size w w') : ListB w' base v n L F := by
  obtain ⟨xs, h1, h2⟩ := h
  refine ⟨xs, owns_below h1 hb, fun r hr => ?_⟩
  obtain ⟨u, e, hu⟩ := h2 r hr
  exact ⟨u, e, owns_below hu hb⟩
theorem ListB.nil (w : World) (base : Nat) (L : Nat → Nat) (F : Nat → Nat → UInt8) : ListB w base (.slice none 0 0) 0 L F := ⟨[], World.ownsRow_nil _ _ _ _, fun r hr => absurd hr (by omega)⟩
theorem own_one {w : World} {base : Nat} {e : TypeId} {n : Nat} {v : Value} {xs : List Value} (h : w.ownsRow base e 1 v n xs) : v.oneCell' = true := by
  rcases h.2 with ⟨rfl, _⟩ | ⟨g', cap, cur, rfl, _⟩ <;> rfl
/-- append of a new row: ahead of it the rows read so, behind it so -/
theorem ListB.snoc {w w' : World} {base n m : Nat} {v v' u : Value} {L : Nat → Nat} {F : Nat → Nat → UInt8} {f : Nat → UInt8} {xs : List Value}
    (h1 : w.ownsRow base 33 1 v n xs) (h2 : ∀ r, r < n → ∃ u, xs[r]? = some u ∧ w.ownsRow base 5 1 u (L r) (bytesOf (L r) (F r)))
    (hu : w.ownsRow base 5 1 u m (bytesOf m f)) (hv : w'.ownsRow base 33 1 v' (n + 1) (xs ++ [u])) (hg : w.grownBy w' v.ownBlock) (hL : L n = m) (hF : F n = f) : ListB w' base v' (n + 1) L F := by
  have hlen : xs.length = n := by have := h1.1; omega
  refine ⟨_, hv, fun r hr => ?_⟩
  by_cases h : r < n
  · obtain ⟨y, e, hy⟩ := h2 r h
    exact ⟨y, by rw [List.getElem?_append_left (by omega)]; exact e, owns_apart hy h1 (by decide) hg⟩
  · obtain rfl : r = n := by omega
    refine ⟨u, by rw [List.getElem?_append_right (by omega), hlen, Nat.sub_self]; rfl, ?_⟩
    rw [hL, hF]
    exact owns_apart hu h1 (by decide) hg
theorem ListB.congr {w : World} {base n : Nat} {v : Value} {L L' : Nat → Nat} {F F' : Nat → Nat → UInt8} (h : ListB w base v n L F) (hL : ∀ r, r < n → L r = L' r) (hF : ∀ r, r < n → ∀ j, j < L r → F r j = F' r j) : ListB w base v n L' F' := by
  obtain ⟨xs, h1, h2⟩ := h
  refine ⟨xs, h1, fun r hr => ?_⟩
  obtain ⟨u, e, hu⟩ := h2 r hr
  refine ⟨u, e, ?_⟩
  rw [← hL r hr, ← bytesOf_congr (hF r hr)]
  exact hu
end Go.Proofs.Ytnhggaghidbniaa
