/- The store of entries: what Add leaves. -/
import Derived.Test.YtnihkjhejjeepaaSlb3
namespace Go.Proofs.Ytnihkjhejjeepaa
open Go.RowKit
set_option linter.unusedVariables false
set_option linter.unusedSimpArgs false
open ShaW Sha

/-- cells anywhere in a row are written -/
theorem owns_setAt {w : World} {base : Nat} {e : TypeId} {size g n cap : Nat} {xs : List Value} (h : w.ownsRow base e size (.slice (some ⟨g, 0, none⟩) n cap) n xs) (o : Nat) (vs : List Value) (hv : o + vs.length ≤ n * size) :
    (w.setCells g o vs).ownsRow base e size (.slice (some ⟨g, 0, none⟩) n cap) n (xs.take o ++ vs ++ xs.drop (o + vs.length)) := by
  have hl := h.1
  refine ⟨by simp only [List.length_append, List.length_take, List.length_drop, hl]; omega, ?_⟩
  rcases h.2 with ⟨hv0, h0⟩ | ⟨g', cap', cur, hv', hb, hg, hnc, hcm, hsz, htk⟩
  · cases hv0
  · injection hv' with e1 e2 e3
    injection e1 with e1
    injection e1 with e1
    subst e1 e3
    have h2 : n * size ≤ cap * size := Nat.mul_le_mul_right _ hnc
    refine .inr ⟨g, cap, _, rfl, hb, setCells_blk vs o cur w hg (by rw [hsz]; omega), hnc, hcm, ?_, ?_⟩
    · simp only [List.size_toArray, List.length_append, List.length_take, List.length_drop, Array.length_toList, hsz]; omega
    · rw [← htk]
      have hlc : cur.toList.length = cap * size := by simp [hsz]
      apply List.ext_getElem?
      intro j
      simp only [List.getElem?_take, List.getElem?_append, List.getElem?_drop, List.length_append, List.length_take, hlc]
      have e1 : min o (cap * size) = o := by omega
      have e2 : min o (min (n * size) (cap * size)) = o := by omega
      rw [e1]
      by_cases hj : j < o
      · rw [if_pos (by omega : j < n * size), if_pos (by omega : j < o + vs.length), if_pos hj, if_pos hj, if_pos (by omega), if_pos (by omega)]
        simp [hj, show j < n * size by omega]
      · by_cases hj2 : j < o + vs.length
        · rw [if_pos (by omega), if_pos hj2, if_neg hj]
          rw [if_pos (by omega), if_neg (by omega)]
          congr 1
          omega
        · by_cases hj3 : j < n * size
          · rw [if_pos hj3, if_neg hj2, if_neg (by omega)]
            rw [if_pos (by omega)]
            congr 1
            omega
          · rw [if_neg hj3, if_neg (by omega)]
            rw [if_neg (by omega)]
theorem upd_row {P E E' Q : List Value} {u f f' nx : Value} {p : Nat} (hP : P.length = p) (hE : E.length = 41) (hE' : E'.length = 41) :
    ((P ++ (E ++ [u, f, nx]) ++ Q).take p ++ E' ++ (P ++ (E ++ [u, f, nx]) ++ Q).drop (p + 41)).take (p + 42) ++ [f'] ++ ((P ++ (E ++ [u, f, nx]) ++ Q).take p ++ E' ++ (P ++ (E ++ [u, f, nx]) ++ Q).drop (p + 41)).drop (p + 43) = P ++ (E' ++ [u, f', nx]) ++ Q := by
  have e1 : (P ++ (E ++ [u, f, nx]) ++ Q).take p = P := by rw [List.append_assoc]; exact List.take_left' hP
  have e2 : (P ++ (E ++ [u, f, nx]) ++ Q).drop (p + 41) = [u, f, nx] ++ Q := by
    rw [show P ++ (E ++ [u, f, nx]) ++ Q = (P ++ E) ++ ([u, f, nx] ++ Q) by simp]
    exact List.drop_left' (by simp [hP, hE])
  rw [e1, e2]
  have e3 : (P ++ E' ++ ([u, f, nx] ++ Q)).take (p + 42) = P ++ E' ++ [u] := by
    rw [show P ++ E' ++ ([u, f, nx] ++ Q) = (P ++ E' ++ [u]) ++ ([f, nx] ++ Q) by simp]
    exact List.take_left' (by simp [hP, hE'])
  have e4 : (P ++ E' ++ ([u, f, nx] ++ Q)).drop (p + 43) = [nx] ++ Q := by
    rw [show P ++ E' ++ ([u, f, nx] ++ Q) = (P ++ E' ++ [u, f]) ++ ([nx] ++ Q) by simp]
    exact List.drop_left' (by simp [hP, hE'])
  rw [e3, e4]
  simp
/-- the row with an entry -/
def fullRow (e : Ent) (r : SRow) (rv pv : Value) : SRow := ⟨⟨e, r.s.use, true, r.s.next⟩, rv, pv⟩
theorem rows_split {L : List SRow} {i : Nat} {r : SRow} (h : L[i]? = some r) : rowsV L = (rowsV L).take (i * 44) ++ (entCells r.s.e r.rv r.pv ++ [.int .i64 (r.s.use : Int), .bool r.s.full, .int .i64 r.s.next]) ++ (rowsV L).drop (i * 44 + 44) := by
  obtain ⟨hi, e⟩ := List.getElem?_eq_some_iff.1 h
  have h2 := flat_set _ _ SRow.len L i hi r
  have h3 : L.set i r = L := by rw [← e]; exact List.set_getElem_self hi
  rw [h3] at h2
  exact h2
theorem rows_full {L : List SRow} {i : Nat} {r : SRow} (h : L[i]? = some r) (e : Ent) (rv pv : Value) :
    (((rowsV L).take (i * 44) ++ entCells e rv pv ++ (rowsV L).drop (i * 44 + 41)).take (i * 44 + 42) ++ [.bool true] ++ ((rowsV L).take (i * 44) ++ entCells e rv pv ++ (rowsV L).drop (i * 44 + 41)).drop (i * 44 + 43)) = rowsV (L.set i (fullRow e r rv pv)) := by
  have hi : i < L.length := (List.getElem?_eq_some_iff.1 h).1
  have hs := rows_split h
  have hP : ((rowsV L).take (i * 44)).length = i * 44 := by rw [List.length_take, rowsV_len]; omega
  have := upd_row (P := (rowsV L).take (i * 44)) (E := entCells r.s.e r.rv r.pv) (E' := entCells e rv pv) (Q := (rowsV L).drop (i * 44 + 44)) (u := .int .i64 (r.s.use : Int)) (f := .bool r.s.full) (f' := .bool true) (nx := .int .i64 r.s.next) hP (entCells_len _ _ _) (entCells_len _ _ _)
  rw [← hs] at this
  rw [this]
  exact (flat_set _ _ SRow.len L i hi (fullRow e r rv pv)).symm
/-- an entry is stored in a slot that is there -/
theorem add_end {w wa : World} {B C most : Nat} {L : List SRow} {g c : Nat} {size : Nat} {free : Int} (h : SlAt wa B C most L (.slice (some ⟨g, 0, none⟩) L.length c) size free) (hb : Only (SFoot w B) w wa) (h0 : SFoot w B C ∨ w.heap.size ≤ C) (h1 : SFoot w B g ∨ w.heap.size ≤ g)
    {i : Nat} {r : SRow} (hr : L[i]? = some r) {e : Ent} {rv pv : Value} (he : EntAt wa B e rv pv) (size' : Nat) :
    Only (SFoot w B) w (((wa.setCells g (i * 44) (entCells e rv pv)).setCell ⟨g, i * 44 + 42, none⟩ (.bool true)).setCell ⟨C, 1, none⟩ (.int .i64 (size' : Int))) ∧
    SlAt (((wa.setCells g (i * 44) (entCells e rv pv)).setCell ⟨g, i * 44 + 42, none⟩ (.bool true)).setCell ⟨C, 1, none⟩ (.int .i64 (size' : Int))) B C most (L.set i (fullRow e r rv pv)) (.slice (some ⟨g, 0, none⟩) L.length c) size' free := by
  have hi : i < L.length := (List.getElem?_eq_some_iff.1 hr).1
  have o1 : Only (fun k => k = g) wa ((wa.setCells g (i * 44) (entCells e rv pv)).setCell ⟨g, i * 44 + 42, none⟩ (.bool true)) := (setCells_only (fun k => k = g) wa g (i * 44) _ (.inl rfl)).setCell_ (p := ⟨g, i * 44 + 42, none⟩) (.inl rfl) _
  obtain ⟨hb1, he1⟩ := only_slot h rfl o1
  have hr1 : EntAt ((wa.setCells g (i * 44) (entCells e rv pv)).setCell ⟨g, i * 44 + 42, none⟩ (.bool true)) B e rv pv := he.only o1 (fun k hk e' => owns_ne_ h.row he.raw (by decide) (g := g) rfl (e' ▸ hk)) (fun k hk e' => owns_ne_ h.row he.peers (by decide) (g := g) rfl (e' ▸ hk))
  have hrow1 := owns_setAt h.row (i * 44) (entCells e rv pv) (by rw [entCells_len]; omega)
  rw [entCells_len] at hrow1
  have hrow2 := owns_setAt hrow1 (i * 44 + 42) [.bool true] (by simp; omega)
  have hrow3 : ((wa.setCells g (i * 44) (entCells e rv pv)).setCell ⟨g, i * 44 + 42, none⟩ (.bool true)).ownsRow B 75 44 (.slice (some ⟨g, 0, none⟩) L.length c) L.length (rowsV (L.set i (fullRow e r rv pv))) := by
    rw [← rows_full hr e rv pv]
    exact hrow2
  have o2 : Only (fun k => k = C) ((wa.setCells g (i * 44) (entCells e rv pv)).setCell ⟨g, i * 44 + 42, none⟩ (.bool true)) (((wa.setCells g (i * 44) (entCells e rv pv)).setCell ⟨g, i * 44 + 42, none⟩ (.bool true)).setCell ⟨C, 1, none⟩ (.int .i64 (size' : Int))) :=
    (Only.refl (fun k => k = C) _).setCell_ (p := ⟨C, 1, none⟩) (.inl rfl) _
  have hb2 := hb1.set_ 1 (.int .i64 (size' : Int))
  refine ⟨(hb.trans o1 (fun k hk => hk ▸ h1)).trans o2 (fun k hk => hk ▸ h0), ⟨h.ge, hb2, ?_, fun q hq => ?_⟩⟩
  · rw [List.length_set]
    exact owns_only hrow3 o2 (fun k hk e' => own_blk_ne hrow3 hb1 (by decide) (e' ▸ hk))
  · have hq1 : EntAt ((wa.setCells g (i * 44) (entCells e rv pv)).setCell ⟨g, i * 44 + 42, none⟩ (.bool true)) B q.s.e q.rv q.pv := by
      rcases List.mem_or_eq_of_mem_set hq with hq | rfl
      · exact he1 q hq
      · exact hr1
    exact hq1.only o2 (fun k hk e' => own_blk_ne hq1.raw hb1 (by decide) (e' ▸ hk)) (fun k hk e' => own_blk_ne hq1.peers hb1 (by decide) (e' ▸ hk))
theorem rowsV_append (L M : List SRow) : rowsV (L ++ M) = rowsV L ++ rowsV M := by unfold rowsV; rw [List.flatMap_append]
theorem rowsV_one (r : SRow) : rowsV [r] = r.cells := by unfold rowsV; simp
/-- a new slot is appended -/
theorem grow_end {w wa w4 : World} {B C most : Nat} {L : List SRow} {sv sv' : Value} {size : Nat} {free : Int} (h : SlAt wa B C most L sv size free) (hb : Below w.heap.size w wa) (W : World) (hW : Below wa.heap.size wa W) (hr4 : w4.ownsRow B 75 44 sv' (L.length + 1) (rowsV L ++ (freeRow 0 0).cells)) (hg : W.grownBy w4 sv.ownBlock) (hB : B ≤ w.heap.size) (hs0 : SlAt w B C most L sv size free) :
    Only (SFoot w B) w (w4.setCell ⟨C, 2, none⟩ sv') ∧ SlAt (w4.setCell ⟨C, 2, none⟩ sv') B C most (L ++ [freeRow 0 0]) sv' size free := by
  have h1 := h.below hW
  have ho4 := Only.of_grown hg
  have hb4 : Blk w4 C 71 #[.int .i64 (most : Int), .int .i64 (size : Int), sv, .int .i64 free] := h1.blk.grown hg (fun e => own_blk_ne h1.row h1.blk (by decide) e.symm)
  have he4 : ∀ r ∈ L, EntAt w4 B r.s.e r.rv r.pv := fun r hr => (h1.ent r hr).only ho4 (fun k hk e => owns_ne_ h1.row (h1.ent r hr).raw (by decide) e hk) (fun k hk e => owns_ne_ h1.row (h1.ent r hr).peers (by decide) e hk)
  have o2 : Only (fun k => k = C) w4 (w4.setCell ⟨C, 2, none⟩ sv') := (Only.refl (fun k => k = C) _).setCell_ (p := ⟨C, 2, none⟩) (.inl rfl) _
  have hl : (L ++ [freeRow 0 0]).length = L.length + 1 := by simp
  have hr5 : w4.ownsRow B 75 44 sv' (L ++ [freeRow 0 0]).length (rowsV (L ++ [freeRow 0 0])) := by rw [hl, rowsV_append, rowsV_one]; exact hr4
  refine ⟨(((Only.of_below (SFoot w B) hb).trans (Only.of_below (fun _ => False) hW) (fun _ h => h.elim)).trans ho4 (fun k hk => .inl (hs0.foot_row hk))).trans o2 (fun k hk => .inl (hk ▸ hs0.foot_blk)), ⟨h.ge, hb4.set_ 2 sv', owns_only hr5 o2 (fun k hk e => own_blk_ne hr5 hb4 (by decide) (e ▸ hk)), fun q hq => ?_⟩⟩
  have hq4 : EntAt w4 B q.s.e q.rv q.pv := by
    rcases List.mem_append.1 hq with hq | hq
    · exact he4 q hq
    · simp at hq; subst hq; exact ent0_at _ _
  exact hq4.only o2 (fun k hk e' => own_blk_ne hq4.raw hb4 (by decide) (e' ▸ hk)) (fun k hk e' => own_blk_ne hq4.peers hb4 (by decide) (e' ▸ hk))
end Go.Proofs.Ytnihkjhejjeepaa
