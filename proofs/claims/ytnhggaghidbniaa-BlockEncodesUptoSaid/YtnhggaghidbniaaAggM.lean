/- Aggregates of many cells are loaded and stored whole. -/
import Derived.Test.YtnhggaghidbniaaKeyL
import Derived.Test.YtnhggaghidbniaaMid
import Derived.Outline
namespace Go.Proofs.Ytnhggaghidbniaa
open Go.RowKit
set_option linter.unusedVariables false
set_option linter.unusedSimpArgs false
/-- n cells lie there -/
def AggOk (n : Nat) (W : World) (v : Value) : Prop := ∃ b o, ∃ cs : List Value, v = .pointer (some ⟨b, o, none⟩) ∧ cs.length = n ∧ W.rangeAt b o cs
def loadN (n : Nat) (W : World) (v : Value) : Value :=
  match v with
  | .pointer (some ad) => .agg ((List.range n).map (fun j => (W.cell? (ad.add j)).getD undef)).toArray
  | _ => .agg #[]
theorem aggOk_mk {n : Nat} {W : World} {b o : Nat} {cs : List Value} (h : W.rangeAt b o cs) (hl : cs.length = n) : AggOk n W (.pointer (some ⟨b, o, none⟩)) := ⟨b, o, cs, rfl, hl, h⟩
theorem loadN_eq {n : Nat} {W : World} {b o : Nat} {cs : List Value} (h : W.rangeAt b o cs) (hl : cs.length = n) : loadN n W (.pointer (some ⟨b, o, none⟩)) = .agg cs.toArray := by
  show Value.agg _ = Value.agg _
  congr 2
  refine List.ext_getElem? (fun j => ?_)
  rw [List.getElem?_map]
  by_cases hj : j < n
  · have hv : cs[j]? = some cs[j] := List.getElem?_eq_getElem (by omega)
    rw [hv, List.getElem?_range hj]
    simp [add_flat, h j _ hv]
  · rw [List.getElem?_eq_none (l := cs) (by omega), List.getElem?_eq_none (by simp; omega)]
    rfl
theorem wp_load_agg {n : Nat} {t : TypeId} {d : TypeDesc} (hu : Try.prog.underlying t = some d) (hd : d.isRow = true) (hi : (Try.prog.info? t).map (·.size) = some n)
    (dst : Option Tmp) (x : Operand) (ty : TypeId) (pos : String) (after : Array Edge) (guard : Option (Nat × Bool)) (a : Act) (W : World) (K : Act → World → Prop) (Q : Exit → Act → World → Prop) (h : AggOk n W (a.eval x)) :
    Oper.wp Try.prog { dst := dst, op := .load t x, type := ty, pos := pos, after := after, guard := guard } a W K Q = K (a.put dst (loadN n W (a.eval x))) W := by
  obtain ⟨b, o, cs, hx, hl, hr⟩ := h
  have e : loadN n W (a.eval x) = .agg cs.toArray := by rw [hx]; exact loadN_eq hr hl
  rw [e]
  have hrun := run_loadVar_mid (P := Try.prog) W b o t cs d hr hu hd (by rw [hl]; exact hi)
  unfold Oper.wp execOp
  simp only [hx, Instr.loadAt, Instr.sureAddr, Sem.run_bind, Sem.run_pure, Result.andThen_ok, hrun]
  rfl
/-- n cells may be stored there -/
def StoOk (n : Nat) (W : World) (p v : Value) : Prop := ∃ b o, ∃ cs : List Value, p = .pointer (some ⟨b, o, none⟩) ∧ v = .agg cs.toArray ∧ cs.length = n ∧ W.there b o n ∧ ∀ u ∈ cs, u.oneCell' = true
theorem wp_store_agg {n : Nat} {t : TypeId} (hi : (Try.prog.info? t).map (·.size) = some n)
    (x y : Operand) (ty : TypeId) (pos : String) (after : Array Edge) (guard : Option (Nat × Bool)) (a : Act) (W : World) (K : Act → World → Prop) (Q : Exit → Act → World → Prop) (h : StoOk n W (a.eval x) (a.eval y)) :
    Oper.wp Try.prog { dst := none, op := .store t x y, type := ty, pos := pos, after := after, guard := guard } a W K Q = K a (storeMid W (a.eval x) (a.eval y)) := by
  obtain ⟨b, o, cs, hx, hy, hl, ht, h1⟩ := h
  have e : storeMid W (a.eval x) (a.eval y) = W.setCells b o cs.toArray.toList := by rw [hx, hy]; rfl
  rw [e]
  have hrun := run_storeVar_mid (P := Try.prog) W b o t cs.toArray (by rw [List.size_toArray, hl]; exact ht) (by rw [List.size_toArray, hl]; exact hi) (all_oneCell_toArray h1)
  unfold Oper.wp execOp
  simp only [hx, hy, Instr.storeAt, Instr.sureAddr, Sem.run_bind, Sem.run_pure, Result.andThen_ok, hrun]
  rfl
theorem storeMid_eq (W : World) (b o : Nat) (cs : List Value) : storeMid W (.pointer (some ⟨b, o, none⟩)) (.agg cs.toArray) = W.setCells b o cs := by
  show W.setCells b o cs.toArray.toList = _
  rw [List.toList_toArray]
/-- a block of so many cells is written whole -/
theorem setCells_whole {W : World} {g : Nat} {t : TypeId} {cur : Array Value} {cs : List Value} (h : Blk W g t cur) (hl : cur.size = cs.length) : Blk (W.setCells g 0 cs) g t cs.toArray := by
  have := setCells_blk (t := t) cs 0 cur W h (by omega)
  unfold Blk
  rw [this]
  have e : List.drop (0 + cs.length) cur.toList = [] := List.drop_of_length_le (by simp [hl])
  rw [e, List.take_zero, List.nil_append, List.append_nil]
theorem blk_there {W : World} {g : Nat} {t : TypeId} {cur : Array Value} (h : Blk W g t cur) {o n : Nat} (hl : o + n ≤ cur.size) : W.there g o n := fun j hj => ⟨by rw [h.cell, Array.getElem?_eq_getElem (by omega)]; rfl, h.frozen _⟩
theorem blk_rangeN {W : World} {g : Nat} {t : TypeId} {cs : List Value} (h : Blk W g t cs.toArray) : W.rangeAt g 0 cs := fun j v hv => by
  rw [Nat.zero_add, h.cell]
  exact List.getElem?_toArray.trans hv
end Go.Proofs.Ytnhggaghidbniaa
