/- The program's Digest: New and Write. -/
import Derived.Test.YtoamjdjmfhdaeaaShaW4
import Derived.Test.YtoamjdjmfhdaeaaApp
import Derived.Deep.RegionLaw
namespace Go.Proofs.Ytoamjdjmfhdaeaa
open Go.RowKit
set_option linter.unusedVariables false
open ShaW Sha

/-- the cells of a Digest -/
def digCells (s : St) (rv : Value) (m : Nat) : Array Value := #[.int .u32 s.a.toNat, .int .u32 s.b.toNat, .int .u32 s.c.toNat, .int .u32 s.d.toNat, .int .u32 s.e.toNat, .int .u32 s.f.toNat, .int .u32 s.g.toNat, .int .u32 s.h.toNat, rv, .int .i64 (m : Int)]

theorem below_of_drewN {B n : Nat} {a w : World} (h : Below B (a.drewN n) w) : Below B a w := ⟨h.os, h.tape, h.output, h.size, h.block⟩
theorem set8_grown (w : World) (D : Nat) (s : St) : w.grownBy (((((((((w.setCell ⟨D, 0, none⟩ (.int .u32 s.a.toNat)).setCell ⟨D, 1, none⟩ (.int .u32 s.b.toNat)).setCell ⟨D, 2, none⟩ (.int .u32 s.c.toNat)).setCell ⟨D, 3, none⟩ (.int .u32 s.d.toNat)).setCell ⟨D, 4, none⟩ (.int .u32 s.e.toNat)).setCell ⟨D, 5, none⟩ (.int .u32 s.f.toNat)).setCell ⟨D, 6, none⟩ (.int .u32 s.g.toNat)).setCell ⟨D, 7, none⟩ (.int .u32 s.h.toNat)) : World) (some D) := by
  refine only_setCell (only_setCell (only_setCell (only_setCell (only_setCell (only_setCell (only_setCell (only_setCell (World.grownBy.refl w _) ?_ _) ?_ _) ?_ _) ?_ _) ?_ _) ?_ _) ?_ _) ?_ _ <;> exact .inl rfl
theorem set8_blk {w : World} {D : Nat} {t : TypeId} {s0 : St} {rv : Value} {m : Nat} (h : Blk w D t (digCells s0 rv m)) (s : St) : Blk (((((((((w.setCell ⟨D, 0, none⟩ (.int .u32 s.a.toNat)).setCell ⟨D, 1, none⟩ (.int .u32 s.b.toNat)).setCell ⟨D, 2, none⟩ (.int .u32 s.c.toNat)).setCell ⟨D, 3, none⟩ (.int .u32 s.d.toNat)).setCell ⟨D, 4, none⟩ (.int .u32 s.e.toNat)).setCell ⟨D, 5, none⟩ (.int .u32 s.f.toNat)).setCell ⟨D, 6, none⟩ (.int .u32 s.g.toNat)).setCell ⟨D, 7, none⟩ (.int .u32 s.h.toNat)) : World) D t (digCells s rv m) := by
  have h8 := (((((((h.set_ 0 (.int .u32 s.a.toNat)).set_ 1 (.int .u32 s.b.toNat)).set_ 2 (.int .u32 s.c.toNat)).set_ 3 (.int .u32 s.d.toNat)).set_ 4 (.int .u32 s.e.toNat)).set_ 5 (.int .u32 s.f.toNat)).set_ 6 (.int .u32 s.g.toNat)).set_ 7 (.int .u32 s.h.toNat)
  rw [show digCells s rv m = _ from (by simp [digCells] : digCells s rv m = (((((((((digCells s0 rv m).setIfInBounds 0 (.int .u32 s.a.toNat)).setIfInBounds 1 (.int .u32 s.b.toNat)).setIfInBounds 2 (.int .u32 s.c.toNat)).setIfInBounds 3 (.int .u32 s.d.toNat)).setIfInBounds 4 (.int .u32 s.e.toNat)).setIfInBounds 5 (.int .u32 s.f.toNat)).setIfInBounds 6 (.int .u32 s.g.toNat)).setIfInBounds 7 (.int .u32 s.h.toNat)))]
  exact h8

theorem far_cell {w w' : World} {g i : Nat} (h : w'.heap[g]? = w.heap[g]?) : w'.cell? ⟨g, i, none⟩ = w.cell? ⟨g, i, none⟩ := World.cell?_of_block h

theorem u8_info : (Try.prog.info? 5).map (fun i => (i.zero, i.size, i.bytes)) = some (some (.int .u8 0), 1, 1) := by kernel_rfl
/-- the length of a slice -/
def sliceLen : Value → Nat
  | .slice _ n _ => n
  | _ => 0

theorem owns_base {w : World} {base base' : Nat} {e : TypeId} {size n : Nat} {v : Value} {xs : List Value} (h : w.ownsRow base e size v n xs) (hb : base' ≤ base) : w.ownsRow base' e size v n xs := by
  refine ⟨h.1, ?_⟩
  rcases h.2 with h | ⟨g, cap, cur, h1, h2, h3⟩
  · exact .inl h
  · exact .inr ⟨g, cap, cur, h1, by omega, h3⟩
end Go.Proofs.Ytoamjdjmfhdaeaa
