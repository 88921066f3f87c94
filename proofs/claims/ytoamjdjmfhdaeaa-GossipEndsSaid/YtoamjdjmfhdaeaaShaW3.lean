/- The program's schedule of the words of a block. -/
import Derived.Test.YtoamjdjmfhdaeaaShaW2
import Derived.Laws.Rows
namespace Go.Proofs.Ytoamjdjmfhdaeaa
open Go.RowKit
set_option linter.unusedVariables false
open ShaW Sha

theorem quiet_grow {P : Program} {f : FuncId} {args : Array Value} {w : World} {a : Nat} {v : Value}
    (h : Calls P f args (w.drewN a) fun e w' => e = .returned v ∧ ∃ m, w' = (w.drewN a).drewN m) :
    Calls P f args (w.drewN a) fun e w'' => e = .returned v ∧ ∃ m, w'' = w.drewN m :=
  h.mono fun _ _ ⟨he, m, hm⟩ => ⟨he, a + m, by rw [hm, World.drewN_drewN]⟩

theorem addM4 (a b c d : Wd) : ((a.toNat : Int) + b.toNat + c.toNat + d.toNat) % 4294967296 = ((((a + b) + c) + d).toNat : Int) := by
  simp only [BitVec.toNat_add]; omega

structure MS (w wr : World) (g : Nat → Wd) : Prop where
  bel : Below w.heap.size w wr
  ret : wr.rowIs w.heap.size 67 64 (fun _ => .int .u32 0)
  ws : wr.rowIs (w.heap.size + 1) 67 64 (fun j => .int .u32 (g j).toNat)
theorem MS.drew {w wr : World} {g : Nat → Wd} (h : MS w wr g) (n : Nat) : MS w (wr.drewN n) g := ⟨below_drewN h.bel n, h.ret, h.ws⟩
theorem MS.set {w wr : World} {g : Nat → Wd} (h : MS w wr g) (i : Nat) (v : Wd) : MS w (wr.setCell ⟨w.heap.size + 1, i, none⟩ (.int .u32 v.toNat)) (fun j => if j = i then v else g j) :=
  ⟨h.bel.setCell (by simp) _, h.ret.setOther (by simp) _, (h.ws.set i _).congr (by intro j _; split <;> rfl)⟩

/-- a row of words as a value -/
def Words (n : Nat) (g : Nat → Wd) (cs : Array Value) : Prop := cs.size = n ∧ ∀ i, i < n → cs[i]? = some (.int .u32 (g i).toNat)
theorem Words.one {n : Nat} {g : Nat → Wd} {cs : Array Value} (h : Words n g cs) : cs.all (·.oneCell') = true := by
  rw [Array.all_eq_true]
  intro i hi
  have := h.2 i (h.1 ▸ hi)
  rw [Array.getElem?_eq_getElem hi] at this
  rw [Option.some.inj this]
  rfl
theorem rowIs.words {w : World} {b : Nat} {t : TypeId} {n : Nat} {g : Nat → Wd} (h : w.rowIs b t n (fun i => .int .u32 (g i).toNat)) :
    ∃ cs, Words n g cs ∧ w.heap[b]? = some (.cells cs t (0, 0)) := by
  obtain ⟨cs, hc, hs, hf⟩ := h
  exact ⟨cs, ⟨hs, hf⟩, hc⟩

end Go.Proofs.Ytoamjdjmfhdaeaa
