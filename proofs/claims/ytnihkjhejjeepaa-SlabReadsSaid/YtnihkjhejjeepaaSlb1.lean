/- The store of entries in memory. -/
import Derived.Test.YtnihkjhejjeepaaEntOwn
namespace Go.Proofs.Ytnihkjhejjeepaa
open Go.RowKit
set_option linter.unusedVariables false
set_option linter.unusedSimpArgs false
open ShaW Sha

/-! ### lists of things of so many cells -/
section
variable {α : Type} (f : α → List Value) (z : Nat) (hf : ∀ a, (f a).length = z)
include hf
theorem flat_len (L : List α) : (L.flatMap f).length = L.length * z := by
  induction L with
  | nil => simp
  | cons a L ih =>
    rw [List.flatMap_cons, List.length_append, ih, hf, List.length_cons, Nat.succ_mul]
    omega
theorem flat_take (L : List α) : ∀ i, (L.flatMap f).take (i * z) = (L.take i).flatMap f := by
  induction L with
  | nil => intro i; simp
  | cons a L ih =>
    intro i
    cases i with
    | zero => simp
    | succ i =>
      rw [List.flatMap_cons, List.take_append, hf, List.take_of_length_le (by rw [hf, Nat.succ_mul]; omega), Nat.succ_mul, Nat.add_sub_cancel, ih]
      rfl
theorem flat_drop (L : List α) : ∀ i, (L.flatMap f).drop (i * z) = (L.drop i).flatMap f := by
  induction L with
  | nil => intro i; simp
  | cons a L ih =>
    intro i
    cases i with
    | zero => simp
    | succ i =>
      rw [List.flatMap_cons, List.drop_append, hf, List.drop_of_length_le (by rw [hf, Nat.succ_mul]; omega), List.nil_append, Nat.succ_mul, Nat.add_sub_cancel, ih]
      rfl
theorem flat_set (L : List α) (i : Nat) (hi : i < L.length) (a : α) : (L.set i a).flatMap f = (L.flatMap f).take (i * z) ++ f a ++ (L.flatMap f).drop (i * z + z) := by
  rw [flat_take f z hf, show i * z + z = (i + 1) * z by rw [Nat.succ_mul], flat_drop f z hf, List.set_eq_take_append_cons_drop, if_pos hi, List.flatMap_append, List.append_assoc]
  rfl
theorem flat_get (L : List α) {i : Nat} {a : α} (h : L[i]? = some a) {j : Nat} (hj : j < z) : (L.flatMap f)[i * z + j]? = (f a)[j]? := by
  obtain ⟨hi, e⟩ := List.getElem?_eq_some_iff.1 h
  have e2 := flat_drop f z hf L i
  rw [← List.getElem?_drop, e2, List.drop_eq_getElem_cons hi, e, List.flatMap_cons, List.getElem?_append_left (by rw [hf]; exact hj)]
end

/-- a slot, plainly -/
structure Slt where
  e : Ent
  use : Nat
  full : Bool
  next : Int
structure SRow where
  s : Slt
  rv : Value
  pv : Value
def SRow.cells (r : SRow) : List Value := entCells r.s.e r.rv r.pv ++ [.int .i64 (r.s.use : Int), .bool r.s.full, .int .i64 r.s.next]
theorem SRow.len (r : SRow) : r.cells.length = 44 := by unfold SRow.cells; rw [List.length_append, entCells_len]; rfl
def rowsV (L : List SRow) : List Value := L.flatMap SRow.cells
theorem rowsV_len (L : List SRow) : (rowsV L).length = L.length * 44 := flat_len _ _ SRow.len L
theorem cells_use (r : SRow) : r.cells[41]? = some (.int .i64 (r.s.use : Int)) := by unfold SRow.cells; rw [List.getElem?_append_right (by rw [entCells_len]; omega), entCells_len]; rfl
theorem cells_full (r : SRow) : r.cells[42]? = some (.bool r.s.full) := by unfold SRow.cells; rw [List.getElem?_append_right (by rw [entCells_len]; omega), entCells_len]; rfl
theorem cells_next (r : SRow) : r.cells[43]? = some (.int .i64 r.s.next) := by unfold SRow.cells; rw [List.getElem?_append_right (by rw [entCells_len]; omega), entCells_len]; rfl
theorem cells_raw (r : SRow) : r.cells[32]? = some r.rv := by
  unfold SRow.cells
  rw [List.getElem?_append_left (by rw [entCells_len]; omega)]
  exact entCells_get r.s.e r.rv r.pv 0
/-- at C lies a store of the slots L -/
structure SlAt (w : World) (B C most : Nat) (L : List SRow) (sv : Value) (size : Nat) (free : Int) : Prop where
  ge : B ≤ C
  blk : Blk w C 71 #[.int .i64 (most : Int), .int .i64 (size : Int), sv, .int .i64 free]
  row : w.ownsRow B 75 44 sv L.length (rowsV L)
  ent : ∀ r ∈ L, EntAt w B r.s.e r.rv r.pv
/-- the blocks that a store may turn -/
def KinT (w : World) (ts : List TypeId) (g : Nat) : Prop := ∃ t cs, Blk w g t cs ∧ t ∈ ts
def SFoot (w : World) (B : Nat) (g : Nat) : Prop := B ≤ g ∧ KinT w [71, 75] g
theorem SFoot.ge {w : World} {B : Nat} : ∀ g, SFoot w B g → B ≤ g := fun g h => h.1
theorem SFoot.not {w : World} {B g : Nat} {t : TypeId} {cs : Array Value} (h : Blk w g t cs) (ht : t ∉ [71, 75]) : ¬ SFoot w B g := by
  rintro ⟨_, t', cs', h', ht'⟩
  unfold Blk at h h'
  rw [h] at h'
  injection h' with h'
  injection h' with _ h2
  exact ht (h2 ▸ ht')
theorem SFoot.own {w : World} {B : Nat} {base n size : Nat} {e : TypeId} {v : Value} {xs : List Value} (h : w.ownsRow base e size v n xs) (he : e ∉ [71, 75]) : ∀ g, v.ownBlock = some g → ¬ SFoot w B g := fun g hg => by
  rcases h.2 with ⟨rfl, _⟩ | ⟨k, cap, cur, rfl, _, h3, _⟩
  · cases hg
  · injection hg with hg
    subst hg
    exact SFoot.not h3 he
theorem SFoot.apart {w : World} {B : Nat} {ty : TypeId} (ht : ty ∉ [71, 75]) : ApartT (SFoot w B) w ty := by
  rintro g cs mk h ⟨_, t', cs', h', ht'⟩
  unfold Blk at h'
  rw [h] at h'
  injection h' with h'
  injection h' with _ h2
  exact ht (h2 ▸ ht')
theorem EntRd.slab {w w' : World} {B : Nat} {e : Ent} {rv pv : Value} (h : EntRd w e rv pv) (ho : Only (SFoot w B) w w') : EntRd w' e rv pv := h.only ho (SFoot.apart (by decide)) (SFoot.apart (by decide))
theorem EntAt.slab {w w' : World} {B base : Nat} {e : Ent} {rv pv : Value} (h : EntAt w base e rv pv) (ho : Only (SFoot w B) w w') : EntAt w' base e rv pv := h.only ho (SFoot.own h.raw (by decide)) (SFoot.own h.peers (by decide))
theorem SlAt.below {w w' : World} {B C most : Nat} {L : List SRow} {sv : Value} {size : Nat} {free : Int} (h : SlAt w B C most L sv size free) (hb : Below w.heap.size w w') : SlAt w' B C most L sv size free :=
  ⟨h.ge, h.blk.below hb h.blk.lt, owns_below h.row hb, fun r hr => (h.ent r hr).below hb⟩
/-- blocks of other types turn -/
theorem SlAt.apart {w w' : World} {S : Nat → Prop} {B C most : Nat} {L : List SRow} {sv : Value} {size : Nat} {free : Int} (h : SlAt w B C most L sv size free) (ho : Only S w w') (hS : ∀ g, S g → ∃ t cs, Blk w g t cs ∧ t ∉ [71, 75, 5, 3]) : SlAt w' B C most L sv size free := by
  have hb : ∀ {g : Nat} {t : TypeId} {cs : Array Value}, Blk w g t cs → t ∈ [71, 75, 5, 3] → ¬ S g := fun h2 h3 h4 => by
    obtain ⟨t, cs, h5, h6⟩ := hS _ h4
    unfold Blk at h2 h5
    rw [h2] at h5
    injection h5 with h5
    injection h5 with _ h7
    exact h6 (h7 ▸ h3)
  have hr : ∀ {base : Nat} {e : TypeId} {size n : Nat} {v : Value} {xs : List Value}, w.ownsRow base e size v n xs → e ∈ [71, 75, 5, 3] → ∀ g, v.ownBlock = some g → ¬ S g := fun h2 h3 g hg => by
    rcases h2.2 with ⟨h5, _⟩ | ⟨k, cap, cur, h5, _, h6, _⟩
    · rw [h5] at hg; cases hg
    · rw [h5] at hg
      injection hg with hg
      subst hg
      exact hb h6 h3
  exact ⟨h.ge, h.blk.only ho (hb h.blk (by simp)), owns_only h.row ho (hr h.row (by simp)), fun r hrr => (h.ent r hrr).only ho (hr (h.ent r hrr).raw (by simp)) (hr (h.ent r hrr).peers (by simp))⟩
theorem SlAt.foot_blk {w : World} {B C most : Nat} {L : List SRow} {sv : Value} {size : Nat} {free : Int} (h : SlAt w B C most L sv size free) : SFoot w B C := ⟨h.ge, _, _, h.blk, by simp⟩
theorem SlAt.foot_row {w : World} {B C most : Nat} {L : List SRow} {sv : Value} {size : Nat} {free : Int} (h : SlAt w B C most L sv size free) {g : Nat} (hg : sv.ownBlock = some g) : SFoot w B g := by
  refine ⟨(h.row.lt g hg).1, ?_⟩
  rcases h.row.2 with ⟨h5, _⟩ | ⟨k, cap, cur, h5, _, h6, _⟩
  · rw [h5] at hg; cases hg
  · rw [h5] at hg
    injection hg with hg
    subst hg
    exact ⟨_, _, h6, by simp⟩
/-- the cells of a slot -/
theorem SlAt.at_ {w : World} {B C most : Nat} {L : List SRow} {sv : Value} {size : Nat} {free : Int} (h : SlAt w B C most L sv size free) {i : Nat} {r : SRow} (hr : L[i]? = some r) :
    ∃ g c, sv = .slice (some ⟨g, 0, none⟩) L.length c ∧ L.length ≤ c ∧ c ≤ 9223372036854775807 ∧ (∀ j, j < 44 → w.cell? ⟨g, i * 44 + j, none⟩ = r.cells[j]?) ∧ w.rangeAt g (i * 44) r.cells ∧ w.there g (i * 44) 44 := by
  have hi : i < L.length := (List.getElem?_eq_some_iff.1 hr).1
  obtain ⟨g, c, hv, _, _⟩ := h.row.form (by omega)
  have hrow := h.row
  rw [hv] at hrow
  have hc : L.length ≤ c ∧ c ≤ 9223372036854775807 := by
    rcases hrow.2 with ⟨h1, _⟩ | ⟨_, cap, _, h1, _, _, h2, h3, _⟩
    · cases h1
    · injection h1 with _ _ h1; subst h1; unfold maxLen at h3; exact ⟨h2, h3⟩
  have hcell : ∀ j, j < 44 → w.cell? ⟨g, i * 44 + j, none⟩ = r.cells[j]? := fun j hj => by
    rw [hrow.cellAt _ (by omega)]
    exact flat_get _ _ SRow.len L hr hj
  refine ⟨g, c, hv, hc.1, hc.2, hcell, fun j v hj => ?_, owns_there hrow i hi⟩
  have hjl : j < 44 := by
    have := (List.getElem?_eq_some_iff.1 hj).1
    rw [SRow.len] at this; exact this
  rw [hcell j hjl]; exact hj
def clampS (n : Int) : Nat := (min (max n 0) 512).toNat
set_option maxRecDepth 100000 in
theorem snew_any (w : World) (B : Nat) (hB : B ≤ w.heap.size) (n : Int) (hn : -9223372036854775808 ≤ n ∧ n ≤ 9223372036854775807) :
    Calls Try.prog 11 #[.int .i64 n] w fun e w' => e = .returned (.pointer (some ⟨w.heap.size, 0, none⟩)) ∧ Below w.heap.size w w' ∧ w'.heap.size = w.heap.size + 1 ∧ SlAt w' B w.heap.size (clampS n) [] (.slice none 0 0) 0 (-1) := by
  have hc : min (max n 0) 512 = (clampS n : Int) := by unfold clampS; omega
  obtain ⟨sz, hsz⟩ : ∃ sz, clampS n = sz := ⟨_, rfl⟩
  rw [hsz] at hc ⊢
  go_enter Try.func11, Try.ntmps11
  go_wp2_with fail
  all_goals
    go_ret
    have key : ∀ x : Int, x = (sz : Int) → SlAt (w.alloc (Obj.cells #[.int .i64 x, .int .i64 0, .slice none 0 0, .int .i64 (-1)] 71)) B w.heap.size sz [] (.slice none 0 0) 0 (-1) := fun x hx => by
      subst hx
      exact ⟨hB, heap_alloc_new _ _, World.ownsRow_nil _ _ _ _, fun r hr => by cases hr⟩
    exact ⟨rfl, (Below.refl _ _).alloc (Nat.le_refl _) _, by simp, key _ (by omega)⟩
theorem slen_any (w : World) (B C most : Nat) (L : List SRow) (sv : Value) (size : Nat) (free : Int) (h : SlAt w B C most L sv size free) :
    Calls Try.prog 19 #[.pointer (some ⟨C, 0, none⟩)] w fun e w' => e = .returned (.int .i64 (size : Int)) ∧ w = w' := by
  have x1 : w.cell? ⟨C, 1, none⟩ = some (.int .i64 (size : Int)) := h.blk.cell 1
  clear h
  go_enter Try.func19, Try.ntmps19
  go_wp2_with fail
  go_ret
  exact ⟨rfl, rfl⟩
end Go.Proofs.Ytnihkjhejjeepaa
