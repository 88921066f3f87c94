/- The program's Digest: Sum, and sha.Sum. -/
import Derived.Test.YtoamjdjmfhdaeaaShaW5
namespace Go.Proofs.Ytoamjdjmfhdaeaa
open Go.RowKit
set_option linter.unusedVariables false
open ShaW Sha

/-- a key as a value -/
abbrev keyV (k : Nat → UInt8) : Value := .agg (bytesOf 32 k).toArray

structure SM (w wr : World) (ψ : Nat → UInt8) : Prop where
  bel : Below w.heap.size w wr
  ret : wr.rowIs w.heap.size 41 32 (fun _ => .int .u8 0)
  out : wr.rowIs (w.heap.size + 1) 41 32 (fun i => .int .u8 ((ψ i).toNat : Int))
theorem SM.drew {w wr : World} {ψ : Nat → UInt8} (h : SM w wr ψ) (n : Nat) : SM w (wr.drewN n) ψ := ⟨below_drewN h.bel n, h.ret, h.out⟩
theorem SM.grown {w wr w' : World} {ψ : Nat → UInt8} {row : Option Nat} (h : SM w wr ψ) (hg : wr.grownBy w' row) (hr : ∀ g, row = some g → w.heap.size + 1 + 1 ≤ g) : SM w w' ψ := by
  refine ⟨h.bel.grown hg h.bel.size (fun g e => by have := hr g e; omega), h.ret.of_block (hg.block _ h.ret.lt ?_), h.out.of_block (hg.block _ h.out.lt ?_)⟩
  · intro e; have := hr _ e.symm; omega
  · intro e; have := hr _ e.symm; omega
theorem SM.alloc {w wr : World} {ψ : Nat → UInt8} (h : SM w wr ψ) (o : Obj) : SM w (wr.alloc o) ψ := ⟨h.bel.alloc h.bel.size _, h.ret.alloc _, h.out.alloc _⟩
theorem SM.below {w wr w' : World} {ψ : Nat → UInt8} (h : SM w wr ψ) (hb : Below wr.heap.size wr w') : SM w w' ψ :=
  ⟨h.bel.trans (hb.mono h.bel.size), h.ret.of_block (hb.block _ h.ret.lt), h.out.of_block (hb.block _ h.out.lt)⟩
theorem SM.size {w wr : World} {ψ : Nat → UInt8} (h : SM w wr ψ) : w.heap.size + 1 + 1 ≤ wr.heap.size := by have := h.out.lt; omega

theorem all_one (l : List Value) (h : ∀ u ∈ l, u.oneCell' = true) : l.toArray.all (·.oneCell') = true := by
  rw [Array.all_eq_true]
  intro i hi
  exact h _ (by simp)
theorem key_heap {w : World} {b : Nat} {t : TypeId} {ψ : Nat → UInt8} (h : w.rowIs b t 32 (fun i => .int .u8 ((ψ i).toNat : Int))) : w.heap[b]? = some (.cells (bytesOf 32 ψ).toArray t (0, 0)) := by
  obtain ⟨cs, hc, hs, hf⟩ := h
  rw [hc]
  congr 2
  apply Array.ext_getElem?
  intro i
  by_cases hi : i < 32
  · rw [hf i hi]
    exact (List.getElem?_toArray.trans (bytesOf_get ψ hi)).symm
  · rw [Array.getElem?_eq_none (by omega), Array.getElem?_eq_none (by simp [bytesOf_length]; omega)]

theorem zero_row (w : World) (t : TypeId) (b : Nat) (hb : b = w.heap.size) (cs : Array Value) (hc : cs = Array.replicate 32 (.int .u8 0)) : (w.alloc (.cells cs t)).rowIs b t 32 (fun _ => .int .u8 0) := by
  subst hc
  exact rowIs_of_heap (heap_alloc_at _ _ _ hb) (by simp) (fun i hi => Array.getElem?_replicate.trans (if_pos hi))

/-- the cells of a state -/
def stCells (s : St) : Array Value := #[.int .u32 s.a.toNat, .int .u32 s.b.toNat, .int .u32 s.c.toNat, .int .u32 s.d.toNat, .int .u32 s.e.toNat, .int .u32 s.f.toNat, .int .u32 s.g.toNat, .int .u32 s.h.toNat]
theorem set8_stblk {w : World} {D : Nat} {t : TypeId} {s0 : St} (h : Blk w D t (stCells s0)) (s : St) : Blk (((((((((w.setCell ⟨D, 0, none⟩ (.int .u32 s.a.toNat)).setCell ⟨D, 1, none⟩ (.int .u32 s.b.toNat)).setCell ⟨D, 2, none⟩ (.int .u32 s.c.toNat)).setCell ⟨D, 3, none⟩ (.int .u32 s.d.toNat)).setCell ⟨D, 4, none⟩ (.int .u32 s.e.toNat)).setCell ⟨D, 5, none⟩ (.int .u32 s.f.toNat)).setCell ⟨D, 6, none⟩ (.int .u32 s.g.toNat)).setCell ⟨D, 7, none⟩ (.int .u32 s.h.toNat)) : World) D t (stCells s) := by
  have h8 := (((((((h.set_ 0 (.int .u32 s.a.toNat)).set_ 1 (.int .u32 s.b.toNat)).set_ 2 (.int .u32 s.c.toNat)).set_ 3 (.int .u32 s.d.toNat)).set_ 4 (.int .u32 s.e.toNat)).set_ 5 (.int .u32 s.f.toNat)).set_ 6 (.int .u32 s.g.toNat)).set_ 7 (.int .u32 s.h.toNat)
  rw [show stCells s = _ from (by simp [stCells] : stCells s = (((((((((stCells s0).setIfInBounds 0 (.int .u32 s.a.toNat)).setIfInBounds 1 (.int .u32 s.b.toNat)).setIfInBounds 2 (.int .u32 s.c.toNat)).setIfInBounds 3 (.int .u32 s.d.toNat)).setIfInBounds 4 (.int .u32 s.e.toNat)).setIfInBounds 5 (.int .u32 s.f.toNat)).setIfInBounds 6 (.int .u32 s.g.toNat)).setIfInBounds 7 (.int .u32 s.h.toNat)))]
  exact h8

/-- the digest so far -/
def outAt (s : St) (k j : Nat) : UInt8 := if j < 4 * k then outByte s j else 0
theorem SM.out4 {w wr : World} {S : St} {k : Nat} (h : SM w wr (outAt S k)) (hk : k < 8) :
    SM w ((((wr.setCell ⟨w.heap.size + 1, 4 * k, none⟩ (.int .u8 (((wordOf S k).toNat : Int) / 16777216))).setCell ⟨w.heap.size + 1, 4 * k + 1, none⟩ (.int .u8 (((wordOf S k).toNat : Int) / 65536 % 256))).setCell ⟨w.heap.size + 1, 4 * k + 2, none⟩ (.int .u8 (((wordOf S k).toNat : Int) / 256 % 256))).setCell ⟨w.heap.size + 1, 4 * k + 3, none⟩ (.int .u8 (((wordOf S k).toNat : Int) % 256)) : World) (outAt S (k + 1)) := by
  have hb : ∀ j, j < 4 → ((outByte S (4 * k + j)).toNat : Int) = ((wordOf S k).toNat : Int) / 2 ^ (24 - j * 8) % 256 := by
    intro j hj
    unfold outByte
    rw [UInt8.toNat_ofNat', show (4 * k + j) / 4 = k by omega, show (4 * k + j) % 4 = j by omega]
    generalize 24 - j * 8 = q
    generalize (wordOf S k).toNat = x
    rw [Int.natCast_emod, Int.natCast_ediv, Int.natCast_pow]
    rfl
  have h0 := hb 0 (by omega)
  have h1 := hb 1 (by omega)
  have h2 := hb 2 (by omega)
  have h3 := hb 3 (by omega)
  rw [show ((2 : Int) ^ (24 - 0 * 8)) = 16777216 from rfl, Nat.add_zero] at h0
  have hlt32 := (wordOf S k).isLt
  rw [show ((wordOf S k).toNat : Int) / 16777216 % 256 = ((wordOf S k).toNat : Int) / 16777216 by omega] at h0
  rw [show ((2 : Int) ^ (24 - 1 * 8)) = 65536 from rfl] at h1
  rw [show ((2 : Int) ^ (24 - 2 * 8)) = 256 from rfl] at h2
  rw [show ((2 : Int) ^ (24 - 3 * 8)) = 1 from rfl, Int.ediv_one] at h3
  rw [← h0, ← h1, ← h2, ← h3]
  refine ⟨(((h.bel.setCell (by simp) _).setCell (by simp) _).setCell (by simp) _).setCell (by simp) _, (((h.ret.setOther (by simp) _).setOther (by simp) _).setOther (by simp) _).setOther (by simp) _, ?_⟩
  refine ((((h.out.set _ _).set _ _).set _ _).set _ _).congr ?_
  intro j hj
  show (if j = 4 * k + 3 then _ else if j = 4 * k + 2 then _ else if j = 4 * k + 1 then _ else if j = 4 * k then _ else _) = _
  unfold outAt
  by_cases e3 : j = 4 * k + 3
  · subst e3; rw [if_pos rfl, if_pos (by omega)]
  rw [if_neg e3]
  by_cases e2 : j = 4 * k + 2
  · subst e2; rw [if_pos rfl, if_pos (by omega)]
  rw [if_neg e2]
  by_cases e1 : j = 4 * k + 1
  · subst e1; rw [if_pos rfl, if_pos (by omega)]
  rw [if_neg e1]
  by_cases e0 : j = 4 * k
  · subst e0; rw [if_pos rfl, if_pos (by omega)]
  rw [if_neg e0]
  by_cases hl : j < 4 * k
  · rw [if_pos hl, if_pos (by omega)]
  · rw [if_neg hl, if_neg (by omega)]
end Go.Proofs.Ytoamjdjmfhdaeaa
