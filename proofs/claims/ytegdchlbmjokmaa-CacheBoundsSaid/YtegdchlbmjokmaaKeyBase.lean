/- What the texts about keys take from the Sha texts, for a seat that has no Sha. -/
import Derived.Test.YtegdchlbmjokmaaKeyEq
import Derived.Test.YtegdchlbmjokmaaOnly
import Derived.BigQuiet
import Derived.Deep.CutBlock
import Derived.Deep.DeepCutAuto
import Derived.Deep.MidRow
import Derived.Deep.OwnRows
import Derived.Deep.QuietTactic
import Derived.Deep.RegionHeld3
import Derived.Deep.RegionLaw
import Derived.Great.BuildSlice
import Derived.StillTailTactics
import Derived.WalkKit
import Derived.WalkLawsBesides
import Derived.WalkSpells
import Derived.Lib.Hide
namespace Go.Proofs.Ytegdchlbmjokmaa
open Go.RowKit
set_option linter.unusedVariables false

theorem setRow_same (w : World) (g : Nat) (cs old : Array Value) (t : TypeId) (hg : w.heap[g]? = some (.cells old t (0, 0))) : (w.setRow g cs).heap[g]? = some (.cells cs t (0, 0)) := by
  simp [World.setRow, Array.getElem?_modify, hg]
theorem setRow_other (w : World) (g k : Nat) (cs : Array Value) (h : k ≠ g) : (w.setRow g cs).heap[k]? = w.heap[k]? := by
  simp only [World.setRow, Array.getElem?_modify]
  rw [if_neg (Ne.symm h)]
theorem below_setRow {B : Nat} {a w : World} (h : Below B a w) {g : Nat} (hg : B ≤ g) (cs : Array Value) : Below B a (w.setRow g cs) :=
  h.trans ⟨rfl, rfl, rfl, by simp, fun k hk => setRow_other _ _ _ _ (by omega)⟩
theorem u8_info : (Try.prog.info? 5).map (fun i => (i.zero, i.size, i.bytes)) = some (some (.int .u8 0), 1, 1) := by kernel_rfl
/-- a key as a value -/
abbrev keyV (k : Nat → UInt8) : Value := .agg (bytesOf 32 k).toArray
theorem all_one (l : List Value) (h : ∀ u ∈ l, u.oneCell' = true) : l.toArray.all (·.oneCell') = true := by
  rw [Array.all_eq_true]
  intro i hi
  exact h _ (by simp)
theorem owns_below {w w' : World} {base : Nat} {e : TypeId} {size n : Nat} {v : Value} {xs : List Value} (h : w.ownsRow base e size v n xs) (hb : Below w.heap.size w w') : w'.ownsRow base e size v n xs := by
  refine h.kept (below_grownBy hb none) ?_
  rcases hv : v.ownBlock with _ | g
  · exact .inl rfl
  · exact .inr (by simp)
theorem heap_alloc_at (w : World) (o : Obj) (n : Nat) (hn : n = w.heap.size) : (w.alloc o).heap[n]? = some o := by subst hn; exact heap_alloc_new w o
end Go.Proofs.Ytegdchlbmjokmaa
