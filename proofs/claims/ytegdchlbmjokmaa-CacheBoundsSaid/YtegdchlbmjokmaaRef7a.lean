/- The reference's list: how it lies in memory; SlotAt, Place, Next, Values. -/
import Derived.Test.YtegdchlbmjokmaaLnkW4
import Derived.Test.YtegdchlbmjokmaaNumb
namespace Go.Proofs.Ytegdchlbmjokmaa
open Go.RowKit
set_option linter.unusedVariables false
open Lnk

def elemsOf (E : List (Nat × Int)) : List Value := E.flatMap fun x => [.int .i64 (x.1 : Int), .int .i64 x.2]
theorem elems_len (E : List (Nat × Int)) : (elemsOf E).length = E.length * 2 := by
  induction E with
  | nil => rfl
  | cons x E ih => unfold elemsOf at ih ⊢; simp only [List.flatMap_cons, List.length_append, ih]; simp; omega
theorem elems_get : ∀ (E : List (Nat × Int)) (i : Nat) (x : Nat × Int), E[i]? = some x → (elemsOf E)[i * 2]? = some (.int .i64 (x.1 : Int)) ∧ (elemsOf E)[i * 2 + 1]? = some (.int .i64 x.2)
  | [], i, x, h => by simp at h
  | y :: E, 0, x, h => by
    simp at h; subst h
    exact ⟨rfl, rfl⟩
  | y :: E, i + 1, x, h => by
    have := elems_get E i x (by simpa using h)
    have e : elemsOf (y :: E) = .int .i64 (y.1 : Int) :: .int .i64 y.2 :: elemsOf E := rfl
    rw [e, show (i + 1) * 2 = i * 2 + 1 + 1 by omega, show i * 2 + 1 + 1 + 1 = (i * 2 + 1) + 1 + 1 by omega]
    simpa using this
theorem elems_append (E F : List (Nat × Int)) : elemsOf (E ++ F) = elemsOf E ++ elemsOf F := by unfold elemsOf; rw [List.flatMap_append]
theorem elems_take : ∀ (E : List (Nat × Int)) (k : Nat), (elemsOf E).take (k * 2) = elemsOf (E.take k)
  | [], k => by simp [elemsOf]
  | y :: E, 0 => by simp [elemsOf]
  | y :: E, k + 1 => by
    have e : elemsOf (y :: E) = .int .i64 (y.1 : Int) :: .int .i64 y.2 :: elemsOf E := rfl
    rw [e, show (k + 1) * 2 = k * 2 + 1 + 1 by omega, List.take_succ_cons, List.take_succ_cons, elems_take E k, List.take_succ_cons]
    rfl
theorem elems_drop : ∀ (E : List (Nat × Int)) (k : Nat), (elemsOf E).drop (k * 2) = elemsOf (E.drop k)
  | [], k => by simp [elemsOf]
  | y :: E, 0 => by simp
  | y :: E, k + 1 => by
    have e : elemsOf (y :: E) = .int .i64 (y.1 : Int) :: .int .i64 y.2 :: elemsOf E := rfl
    rw [e, show (k + 1) * 2 = k * 2 + 1 + 1 by omega, List.drop_succ_cons, List.drop_succ_cons, elems_drop E k, List.drop_succ_cons]
theorem elems_one (E : List (Nat × Int)) : ∀ u ∈ elemsOf E, u.oneCell' = true := by
  intro u hu
  unfold elemsOf at hu
  obtain ⟨x, _, hx⟩ := List.mem_flatMap.1 hu
  simp at hx
  rcases hx with rfl | rfl <;> rfl
def freesOf (F : List Nat) : List Value := F.map fun (s : Nat) => Value.int .i64 (s : Int)
theorem frees_one (F : List Nat) : ∀ u ∈ freesOf F, u.oneCell' = true := by
  intro u hu
  unfold freesOf at hu
  obtain ⟨x, _, rfl⟩ := List.mem_map.1 hu
  rfl

theorem owns_ne {w : World} {base base' : Nat} {e e' : TypeId} {size size' n n' : Nat} {v v' : Value} {xs xs' : List Value} (h : w.ownsRow base e size v n xs) (h' : w.ownsRow base' e' size' v' n' xs') (hne : e ≠ e') {g : Nat} (hg : v.ownBlock = some g) : v'.ownBlock ≠ some g := by
  intro hg'
  rcases h.2 with ⟨h1, _⟩ | ⟨k, cap, cur, h1, _, h3, _⟩
  · rw [h1] at hg; cases hg
  · rcases h'.2 with ⟨k1, _⟩ | ⟨k', cap', cur', k1, _, k3, _⟩
    · rw [k1] at hg'; cases hg'
    · rw [h1] at hg; rw [k1] at hg'
      have e1 : k = g := by simpa [Value.ownBlock] using hg
      have e2 : k' = g := by simpa [Value.ownBlock] using hg'
      subst e1; subst e2
      rw [h3] at k3
      simp at k3
      exact hne k3.2
theorem ListAt.num {w w' : World} {B D D' n N : Nat} {rv : Value} {c : LS} (h : ListAt w B D rv c) (hn : NumAt w B D' n N) (ho : Only (fun k => k = D') w w') : ListAt w' B D rv c := by
  obtain ⟨A, cc, f, _, hb, _⟩ := hn
  refine h.only ho fun k hk hf => ?_
  subst hf
  rcases hk with rfl | hk
  · exact absurd rfl (Blk.ne_ h.blk hb (by decide))
  · exact own_blk_ne h.row hb (by decide) hk
theorem NumAt.step {w w' : World} {B D D' n N : Nat} {rv : Value} {c : LS} (h : NumAt w B D' n N) (hl : ListAt w B D rv c) (hB : B ≤ w.heap.size) (ho : Only (foot D rv) w w') : NumAt w' B D' n N := by
  have hb : ∃ cs, Blk w D' 44 cs := by obtain ⟨A, cc, f, _, hb, _⟩ := h; exact ⟨_, hb⟩
  obtain ⟨cs, hb⟩ := hb
  refine h.only ho hB hl.ge fun hf => ?_
  rcases hf with hk | hk
  · exact Blk.ne_ hl.blk hb (by decide) hk.symm
  · exact own_blk_ne hl.row hb (by decide) hk

/-- the index of the element with a slot -/
def placeR (E : List (Nat × Int)) (s : Int) : Option Nat := E.findIdx? fun x => decide ((x.1 : Int) = s)
theorem placeR_some {E : List (Nat × Int)} {s : Int} {i : Nat} {x : Nat × Int} (h : E[i]? = some x) (hx : (x.1 : Int) = s) (hb : ∀ (j : Nat) (y : Nat × Int), j < i → E[j]? = some y → (y.1 : Int) ≠ s) : placeR E s = some i := by
  unfold placeR
  rw [List.findIdx?_eq_some_iff_getElem]
  have hi : i < E.length := by
    rcases Nat.lt_or_ge i E.length with h1 | h1
    · exact h1
    · rw [List.getElem?_eq_none h1] at h; cases h
  refine ⟨hi, ?_, ?_⟩
  · rw [List.getElem?_eq_getElem hi] at h
    injection h with h
    rw [h]; simpa using hx
  · intro j hj
    have := hb j (E[j]'(by omega)) hj (List.getElem?_eq_getElem _)
    simpa using this
theorem placeR_none {E : List (Nat × Int)} {s : Int} (hb : ∀ (j : Nat) (y : Nat × Int), E[j]? = some y → (y.1 : Int) ≠ s) : placeR E s = none := by
  unfold placeR
  rw [List.findIdx?_eq_none_iff]
  intro x hx
  obtain ⟨j, hj⟩ := List.getElem?_of_mem hx
  simpa using hb j x hj
theorem placeR_get {E : List (Nat × Int)} {s : Int} {i : Nat} (h : placeR E s = some i) : ∃ x, E[i]? = some x ∧ (x.1 : Int) = s := by
  unfold placeR at h
  rw [List.findIdx?_eq_some_iff_getElem] at h
  obtain ⟨hi, h1, _⟩ := h
  exact ⟨E[i], List.getElem?_eq_getElem hi, by simpa using h1⟩
theorem placeR_not {E : List (Nat × Int)} {s : Int} (h : placeR E s = none) : ∀ (j : Nat) (y : Nat × Int), E[j]? = some y → (y.1 : Int) ≠ s := by
  unfold placeR at h
  rw [List.findIdx?_eq_none_iff] at h
  intro j y hj
  simpa using h y (List.mem_of_getElem? hj)

end Go.Proofs.Ytegdchlbmjokmaa
