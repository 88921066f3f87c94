/- An element of several cells in the middle of a row: what a store of it leaves. -/
import Derived.Test.YtnhggaghidbniaaOnly
import Derived.Deep.MidRow
import Derived.Laws.CopyRow
import Derived.Test.YtnhggaghidbniaaKeyL
import Derived.Outline
namespace Go.Proofs.Ytnhggaghidbniaa
open Go.RowKit
set_option linter.unusedVariables false
set_option linter.unusedSimpArgs false

/-- what a store into the middle of a row leaves -/
def storeMid (W : World) (p v : Value) : World :=
  match p, v with
  | .pointer (some ⟨g, o, _⟩), .agg cs => W.setCells g o cs.toList
  | _, _ => W
/-- fewer elements -/
theorem owns_cut {w : World} {base : Nat} {e : TypeId} {size : Nat} {A : Option Addr} {n m cap : Nat} {xs : List Value} (h : w.ownsRow base e size (.slice A n cap) n xs) (hm : m ≤ n) (hn : 0 < n) : w.ownsRow base e size (.slice A m cap) m (xs.take (m * size)) := by
  have hl := h.1
  refine ⟨by rw [List.length_take, hl, Nat.min_eq_left (Nat.mul_le_mul_right _ hm)], ?_⟩
  rcases h.2 with ⟨_, h0⟩ | ⟨g, cap', cur, hv, hb, hg, hnc, hcm, hsz, htk⟩
  · omega
  · injection hv with h1 h2 h3
    subst h1 h3
    exact .inr ⟨g, cap, cur, rfl, hb, hg, by omega, hcm, hsz, by rw [← htk, List.take_take, Nat.min_eq_left (Nat.mul_le_mul_right _ hm)]⟩
/-- an element of several cells is written -/
theorem setCells_blk {g : Nat} {t : TypeId} : ∀ (vs : List Value) (o : Nat) (cur : Array Value) (w : World), w.heap[g]? = some (.cells cur t (0, 0)) → o + vs.length ≤ cur.size →
    (w.setCells g o vs).heap[g]? = some (.cells (cur.toList.take o ++ vs ++ cur.toList.drop (o + vs.length)).toArray t (0, 0))
  | [], o, cur, w, hg, hl => by
    simp only [World.setCells, List.append_nil, List.length_nil, Nat.add_zero, List.take_append_drop, Array.toArray_toList]
    exact hg
  | v :: r, o, cur, w, hg, hl => by
    rw [World.setCells]
    have hb : (w.setCell ⟨g, o, none⟩ v).heap[g]? = some (.cells (cur.setIfInBounds o v) t (0, 0)) := Blk.set_ (show Blk w g t cur from hg) o v
    rw [setCells_blk r (o + 1) _ _ hb (by simp at hl ⊢; omega)]
    have e := list_seg_step cur.toList o v r (by simp at hl ⊢; omega)
    simp only [List.length_cons, Array.toList_setIfInBounds, e]
theorem setCells_only (S : Nat → Prop) (w : World) (g o : Nat) (vs : List Value) (h : S g ∨ w.heap.size ≤ g) : Only S w (w.setCells g o vs) := by
  suffices ∀ (vs : List Value) (o : Nat) (w1 : World), Only S w w1 → Only S w (w1.setCells g o vs) from this vs o w (Only.refl _ _)
  intro vs
  induction vs with
  | nil => exact fun _ _ h1 => h1
  | cons v r ih => exact fun o w1 h1 => ih (o + 1) _ (h1.setCell_ (p := ⟨g, o, none⟩) h v)
theorem owns_set {w : World} {base : Nat} {e : TypeId} {size g n cap : Nat} {xs : List Value} (h : w.ownsRow base e size (.slice (some ⟨g, 0, none⟩) n cap) n xs) (i : Nat) (hi : i < n) (vs : List Value) (hv : vs.length = size) :
    (w.setCells g (i * size) vs).ownsRow base e size (.slice (some ⟨g, 0, none⟩) n cap) n (xs.take (i * size) ++ vs ++ xs.drop (i * size + size)) := by
  have hl := h.1
  have h1 : i * size + size ≤ n * size := by rw [← Nat.succ_mul]; exact Nat.mul_le_mul_right _ hi
  refine ⟨by simp only [List.length_append, List.length_take, List.length_drop, hl, hv]; omega, ?_⟩
  rcases h.2 with ⟨_, h0⟩ | ⟨g', cap', cur, hv', hb, hg, hnc, hcm, hsz, htk⟩
  · omega
  · injection hv' with e1 e2 e3
    injection e1 with e1
    injection e1 with e1
    subst e1 e3
    have h2 : n * size ≤ cap * size := Nat.mul_le_mul_right _ hnc
    refine .inr ⟨g, cap, _, rfl, hb, setCells_blk vs (i * size) cur w hg (by rw [hv, hsz]; omega), hnc, hcm, ?_, ?_⟩
    · simp only [List.size_toArray, List.length_append, List.length_take, List.length_drop, Array.length_toList, hsz, hv]; omega
    · rw [← htk, hv]
      have hlc : cur.toList.length = cap * size := by simp [hsz]
      apply List.ext_getElem?
      intro j
      simp only [List.getElem?_take, List.getElem?_append, List.getElem?_drop, List.length_append, List.length_take, List.length_drop, hlc, hv]
      have e1 : min (i * size) (cap * size) = i * size := by omega
      have e2 : min (i * size) (min (n * size) (cap * size)) = i * size := by omega
      rw [e1]
      by_cases hj : j < i * size
      · rw [if_pos (by omega : j < n * size), if_pos (by omega : j < i * size + size), if_pos hj, if_pos hj, if_pos (by omega), if_pos (by omega)]
        simp [hj, show j < n * size by omega]
      · by_cases hj2 : j < i * size + size
        · rw [if_pos (by omega), if_pos hj2, if_neg hj]
          rw [if_pos (by omega), if_neg (by omega)]
          congr 1
          omega
        · by_cases hj3 : j < n * size
          · rw [if_pos hj3, if_neg hj2, if_neg (by omega)]
            rw [if_pos (by omega)]
            congr 1
            omega
          · rw [if_neg hj3, if_neg (by omega)]
            rw [if_neg (by omega)]
theorem owns_there {w : World} {base : Nat} {e : TypeId} {size g n cap : Nat} {xs : List Value} (h : w.ownsRow base e size (.slice (some ⟨g, 0, none⟩) n cap) n xs) (i : Nat) (hi : i < n) : w.there g (i * size) size := by
  have h1 : i * size + size ≤ n * size := by rw [← Nat.succ_mul]; exact Nat.mul_le_mul_right _ hi
  intro j hj
  refine ⟨?_, h.frozenAt _⟩
  rw [h.cellAt _ (by omega), List.getElem?_eq_getElem (by rw [h.1]; omega)]
  rfl
theorem owns_base2 {w : World} {base base' : Nat} {e : TypeId} {size n : Nat} {v : Value} {xs : List Value} (h : w.ownsRow base e size v n xs) (hb : base' ≤ base) : w.ownsRow base' e size v n xs := by
  refine ⟨h.1, ?_⟩
  rcases h.2 with h2 | ⟨g, cap, cur, h1, h2, h3⟩
  · exact .inl h2
  · exact .inr ⟨g, cap, cur, h1, by omega, h3⟩
end Go.Proofs.Ytnhggaghidbniaa

/- Aggregates of many cells are loaded and stored whole. -/
namespace Go.Proofs.Ytnhggaghidbniaa
open Go.RowKit
set_option linter.unusedVariables false
set_option linter.unusedSimpArgs false
/-- n cells lie there -/
def AggOk (n : Nat) (W : World) (v : Value) : Prop := ∃ b o, ∃ cs : List Value, v = .pointer (some ⟨b, o, none⟩) ∧ cs.length = n ∧ W.rangeAt b o cs
def loadN (n : Nat) (W : World) (v : Value) : Value :=
  match v with
  | .pointer (some ad) => .agg ((List.range n).map (fun j => (W.cell? (ad.add j)).getD undef)).toArray
  | _ => .agg #[]
theorem aggOk_mk {n : Nat} {W : World} {b o : Nat} {cs : List Value} (h : W.rangeAt b o cs) (hl : cs.length = n) : AggOk n W (.pointer (some ⟨b, o, none⟩)) := ⟨b, o, cs, rfl, hl, h⟩
theorem loadN_eq {n : Nat} {W : World} {b o : Nat} {cs : List Value} (h : W.rangeAt b o cs) (hl : cs.length = n) : loadN n W (.pointer (some ⟨b, o, none⟩)) = .agg cs.toArray := by
  show Value.agg _ = Value.agg _
  congr 2
  refine List.ext_getElem? (fun j => ?_)
  rw [List.getElem?_map]
  by_cases hj : j < n
  · have hv : cs[j]? = some cs[j] := List.getElem?_eq_getElem (by omega)
    rw [hv, List.getElem?_range hj]
    simp [add_flat, h j _ hv]
  · rw [List.getElem?_eq_none (l := cs) (by omega), List.getElem?_eq_none (by simp; omega)]
    rfl
theorem wp_load_agg {n : Nat} {t : TypeId} {d : TypeDesc} (hu : Try.prog.underlying t = some d) (hd : d.isRow = true) (hi : (Try.prog.info? t).map (·.size) = some n)
    (dst : Option Tmp) (x : Operand) (ty : TypeId) (pos : String) (after : Array Edge) (guard : Option (Nat × Bool)) (a : Act) (W : World) (K : Act → World → Prop) (Q : Exit → Act → World → Prop) (h : AggOk n W (a.eval x)) :
    Oper.wp Try.prog { dst := dst, op := .load t x, type := ty, pos := pos, after := after, guard := guard } a W K Q = K (a.put dst (loadN n W (a.eval x))) W := by
  obtain ⟨b, o, cs, hx, hl, hr⟩ := h
  have e : loadN n W (a.eval x) = .agg cs.toArray := by rw [hx]; exact loadN_eq hr hl
  rw [e]
  have hrun := run_loadVar_mid (P := Try.prog) W b o t cs d hr hu hd (by rw [hl]; exact hi)
  unfold Oper.wp execOp
  simp only [hx, Instr.loadAt, Instr.sureAddr, Sem.run_bind, Sem.run_pure, Result.andThen_ok, hrun]
  rfl
/-- n cells may be stored there -/
def StoOk (n : Nat) (W : World) (p v : Value) : Prop := ∃ b o, ∃ cs : List Value, p = .pointer (some ⟨b, o, none⟩) ∧ v = .agg cs.toArray ∧ cs.length = n ∧ W.there b o n ∧ ∀ u ∈ cs, u.oneCell' = true
theorem wp_store_agg {n : Nat} {t : TypeId} (hi : (Try.prog.info? t).map (·.size) = some n)
    (x y : Operand) (ty : TypeId) (pos : String) (after : Array Edge) (guard : Option (Nat × Bool)) (a : Act) (W : World) (K : Act → World → Prop) (Q : Exit → Act → World → Prop) (h : StoOk n W (a.eval x) (a.eval y)) :
    Oper.wp Try.prog { dst := none, op := .store t x y, type := ty, pos := pos, after := after, guard := guard } a W K Q = K a (storeMid W (a.eval x) (a.eval y)) := by
  obtain ⟨b, o, cs, hx, hy, hl, ht, h1⟩ := h
  have e : storeMid W (a.eval x) (a.eval y) = W.setCells b o cs.toArray.toList := by rw [hx, hy]; rfl
  rw [e]
  have hrun := run_storeVar_mid (P := Try.prog) W b o t cs.toArray (by rw [List.size_toArray, hl]; exact ht) (by rw [List.size_toArray, hl]; exact hi) (all_oneCell_toArray h1)
  unfold Oper.wp execOp
  simp only [hx, hy, Instr.storeAt, Instr.sureAddr, Sem.run_bind, Sem.run_pure, Result.andThen_ok, hrun]
  rfl
theorem storeMid_eq (W : World) (b o : Nat) (cs : List Value) : storeMid W (.pointer (some ⟨b, o, none⟩)) (.agg cs.toArray) = W.setCells b o cs := by
  show W.setCells b o cs.toArray.toList = _
  rw [List.toList_toArray]
/-- a block of so many cells is written whole -/
theorem setCells_whole {W : World} {g : Nat} {t : TypeId} {cur : Array Value} {cs : List Value} (h : Blk W g t cur) (hl : cur.size = cs.length) : Blk (W.setCells g 0 cs) g t cs.toArray := by
  have := setCells_blk (t := t) cs 0 cur W h (by omega)
  unfold Blk
  rw [this]
  have e : List.drop (0 + cs.length) cur.toList = [] := List.drop_of_length_le (by simp [hl])
  rw [e, List.take_zero, List.nil_append, List.append_nil]
theorem blk_there {W : World} {g : Nat} {t : TypeId} {cur : Array Value} (h : Blk W g t cur) {o n : Nat} (hl : o + n ≤ cur.size) : W.there g o n := fun j hj => ⟨by rw [h.cell, Array.getElem?_eq_getElem (by omega)]; rfl, h.frozen _⟩
theorem blk_rangeN {W : World} {g : Nat} {t : TypeId} {cs : List Value} (h : Blk W g t cs.toArray) : W.rangeAt g 0 cs := fun j v hv => by
  rw [Nat.zero_add, h.cell]
  exact List.getElem?_toArray.trans hv
end Go.Proofs.Ytnhggaghidbniaa
