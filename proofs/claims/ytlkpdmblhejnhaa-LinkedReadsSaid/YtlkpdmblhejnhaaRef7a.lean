/- The reference's list: how it lies in memory; SlotAt, Place, Next, Values. -/
import Derived.Test.YtlkpdmblhejnhaaLnkW4
import Derived.Test.YtlkpdmblhejnhaaNumb
namespace Go.Proofs.Ytlkpdmblhejnhaa
open Go.RowKit
set_option linter.unusedVariables false
open Lnk

def elemsOf (E : List (Nat × Int)) : List Value := E.flatMap fun x => [.int .i64 (x.1 : Int), .int .i64 x.2]
theorem elems_len (E : List (Nat × Int)) : (elemsOf E).length = E.length * 2 := by
  induction E with
  | nil => rfl
  | cons x E ih => unfold elemsOf at ih ⊢; simp only [List.flatMap_cons, List.length_append, ih]; simp; omega
theorem elems_get : ∀ (E : List (Nat × Int)) (i : Nat) (x : Nat × Int), E[i]? = some x → (elemsOf E)[i * 2]? = some (.int .i64 (x.1 : Int)) ∧ (elemsOf E)[i * 2 + 1]? = some (.int .i64 x.2)
  | [], i, x, h => by simp at h
  | y :: E, 0, x, h => by
    simp at h; subst h
    exact ⟨rfl, rfl⟩
  | y :: E, i + 1, x, h => by
    have := elems_get E i x (by simpa using h)
    have e : elemsOf (y :: E) = .int .i64 (y.1 : Int) :: .int .i64 y.2 :: elemsOf E := rfl
    rw [e, show (i + 1) * 2 = i * 2 + 1 + 1 by omega, show i * 2 + 1 + 1 + 1 = (i * 2 + 1) + 1 + 1 by omega]
    simpa using this
theorem elems_append (E F : List (Nat × Int)) : elemsOf (E ++ F) = elemsOf E ++ elemsOf F := by unfold elemsOf; rw [List.flatMap_append]
theorem elems_take : ∀ (E : List (Nat × Int)) (k : Nat), (elemsOf E).take (k * 2) = elemsOf (E.take k)
  | [], k => by simp [elemsOf]
  | y :: E, 0 => by simp [elemsOf]
  | y :: E, k + 1 => by
    have e : elemsOf (y :: E) = .int .i64 (y.1 : Int) :: .int .i64 y.2 :: elemsOf E := rfl
    rw [e, show (k + 1) * 2 = k * 2 + 1 + 1 by omega, List.take_succ_cons, List.take_succ_cons, elems_take E k, List.take_succ_cons]
    rfl
theorem elems_drop : ∀ (E : List (Nat × Int)) (k : Nat), (elemsOf E).drop (k * 2) = elemsOf (E.drop k)
  | [], k => by simp [elemsOf]
  | y :: E, 0 => by simp
  | y :: E, k + 1 => by
    have e : elemsOf (y :: E) = .int .i64 (y.1 : Int) :: .int .i64 y.2 :: elemsOf E := rfl
    rw [e, show (k + 1) * 2 = k * 2 + 1 + 1 by omega, List.drop_succ_cons, List.drop_succ_cons, elems_drop E k, List.drop_succ_cons]
theorem elems_one (E : List (Nat × Int)) : ∀ u ∈ elemsOf E, u.oneCell' = true := by
  intro u hu
  unfold elemsOf at hu
  obtain ⟨x, _, hx⟩ := List.mem_flatMap.1 hu
  simp at hx
  rcases hx with rfl | rfl <;> rfl
def freesOf (F : List Nat) : List Value := F.map fun (s : Nat) => Value.int .i64 (s : Int)
theorem frees_one (F : List Nat) : ∀ u ∈ freesOf F, u.oneCell' = true := by
  intro u hu
  unfold freesOf at hu
  obtain ⟨x, _, rfl⟩ := List.mem_map.1 hu
  rfl

/-- ev, fv and the number of slots are the reference's list r -/
structure RefAt (w : World) (B : Nat) (ev fv : Value) (r : R) : Prop where
  el : w.ownsRow B 47 2 ev r.E.length (elemsOf r.E)
  fr : w.ownsRow B 3 1 fv r.F.length (freesOf r.F)
def refV (ev fv : Value) (r : R) : Value := .agg #[ev, fv, .int .i64 (r.U : Int)]
theorem RefAt.below {w w' : World} {B : Nat} {ev fv : Value} {r : R} (h : RefAt w B ev fv r) (hb : Below w.heap.size w w') : RefAt w' B ev fv r :=
  ⟨owns_only h.el (Only.of_below (fun _ => False) hb) (fun _ _ h => h), owns_only h.fr (Only.of_below (fun _ => False) hb) (fun _ _ h => h)⟩
theorem owns_ne {w : World} {base base' : Nat} {e e' : TypeId} {size size' n n' : Nat} {v v' : Value} {xs xs' : List Value} (h : w.ownsRow base e size v n xs) (h' : w.ownsRow base' e' size' v' n' xs') (hne : e ≠ e') {g : Nat} (hg : v.ownBlock = some g) : v'.ownBlock ≠ some g := by
  intro hg'
  rcases h.2 with ⟨h1, _⟩ | ⟨k, cap, cur, h1, _, h3, _⟩
  · rw [h1] at hg; cases hg
  · rcases h'.2 with ⟨k1, _⟩ | ⟨k', cap', cur', k1, _, k3, _⟩
    · rw [k1] at hg'; cases hg'
    · rw [h1] at hg; rw [k1] at hg'
      have e1 : k = g := by simpa [Value.ownBlock] using hg
      have e2 : k' = g := by simpa [Value.ownBlock] using hg'
      subst e1; subst e2
      rw [h3] at k3
      simp at k3
      exact hne k3.2
/-- the program's list is apart from the reference's -/
theorem RefAt.step {w w' : World} {B D : Nat} {ev fv rv : Value} {r : R} {c : LS} (h : RefAt w B ev fv r) (hl : ListAt w B D rv c) (ho : Only (foot D rv) w w') : RefAt w' B ev fv r := by
  refine ⟨owns_only h.el ho fun g hg hf => ?_, owns_only h.fr ho fun g hg hf => ?_⟩
  · rcases hf with rfl | hf
    · exact own_blk_ne h.el hl.blk (by decide) hg
    · exact owns_ne h.el hl.row (by decide) hg hf
  · rcases hf with rfl | hf
    · exact own_blk_ne h.fr hl.blk (by decide) hg
    · exact owns_ne h.fr hl.row (by decide) hg hf
/-- the numbers are apart from the reference's list -/
theorem RefAt.num {w w' : World} {B D n N : Nat} {ev fv : Value} {r : R} (h : RefAt w B ev fv r) (hn : NumAt w B D n N) (ho : Only (fun k => k = D) w w') : RefAt w' B ev fv r := by
  obtain ⟨A, c, f, _, hb, _⟩ := hn
  refine ⟨owns_only h.el ho fun g hg hf => ?_, owns_only h.fr ho fun g hg hf => ?_⟩
  · subst hf; exact own_blk_ne h.el hb (by decide) hg
  · subst hf; exact own_blk_ne h.fr hb (by decide) hg
theorem ListAt.num {w w' : World} {B D D' n N : Nat} {rv : Value} {c : LS} (h : ListAt w B D rv c) (hn : NumAt w B D' n N) (ho : Only (fun k => k = D') w w') : ListAt w' B D rv c := by
  obtain ⟨A, cc, f, _, hb, _⟩ := hn
  refine h.only ho fun k hk hf => ?_
  subst hf
  rcases hk with rfl | hk
  · exact absurd rfl (Blk.ne_ h.blk hb (by decide))
  · exact own_blk_ne h.row hb (by decide) hk
theorem NumAt.step {w w' : World} {B D D' n N : Nat} {rv : Value} {c : LS} (h : NumAt w B D' n N) (hl : ListAt w B D rv c) (hB : B ≤ w.heap.size) (ho : Only (foot D rv) w w') : NumAt w' B D' n N := by
  have hb : ∃ cs, Blk w D' 41 cs := by obtain ⟨A, cc, f, _, hb, _⟩ := h; exact ⟨_, hb⟩
  obtain ⟨cs, hb⟩ := hb
  refine h.only ho hB hl.ge fun hf => ?_
  rcases hf with hk | hk
  · exact Blk.ne_ hl.blk hb (by decide) hk.symm
  · exact own_blk_ne hl.row hb (by decide) hk

/-- the index of the element with a slot -/
def placeR (E : List (Nat × Int)) (s : Int) : Option Nat := E.findIdx? fun x => decide ((x.1 : Int) = s)
theorem placeR_some {E : List (Nat × Int)} {s : Int} {i : Nat} {x : Nat × Int} (h : E[i]? = some x) (hx : (x.1 : Int) = s) (hb : ∀ (j : Nat) (y : Nat × Int), j < i → E[j]? = some y → (y.1 : Int) ≠ s) : placeR E s = some i := by
  unfold placeR
  rw [List.findIdx?_eq_some_iff_getElem]
  have hi : i < E.length := by
    rcases Nat.lt_or_ge i E.length with h1 | h1
    · exact h1
    · rw [List.getElem?_eq_none h1] at h; cases h
  refine ⟨hi, ?_, ?_⟩
  · rw [List.getElem?_eq_getElem hi] at h
    injection h with h
    rw [h]; simpa using hx
  · intro j hj
    have := hb j (E[j]'(by omega)) hj (List.getElem?_eq_getElem _)
    simpa using this
theorem placeR_none {E : List (Nat × Int)} {s : Int} (hb : ∀ (j : Nat) (y : Nat × Int), E[j]? = some y → (y.1 : Int) ≠ s) : placeR E s = none := by
  unfold placeR
  rw [List.findIdx?_eq_none_iff]
  intro x hx
  obtain ⟨j, hj⟩ := List.getElem?_of_mem hx
  simpa using hb j x hj
theorem placeR_get {E : List (Nat × Int)} {s : Int} {i : Nat} (h : placeR E s = some i) : ∃ x, E[i]? = some x ∧ (x.1 : Int) = s := by
  unfold placeR at h
  rw [List.findIdx?_eq_some_iff_getElem] at h
  obtain ⟨hi, h1, _⟩ := h
  exact ⟨E[i], List.getElem?_eq_getElem hi, by simpa using h1⟩
theorem placeR_not {E : List (Nat × Int)} {s : Int} (h : placeR E s = none) : ∀ (j : Nat) (y : Nat × Int), E[j]? = some y → (y.1 : Int) ≠ s := by
  unfold placeR at h
  rw [List.findIdx?_eq_none_iff] at h
  intro j y hj
  simpa using h y (List.mem_of_getElem? hj)

theorem elem_cells {w : World} {B : Nat} {ev fv : Value} {r : R} (h : RefAt w B ev fv r) : ∃ ao g cap, ev = .slice ao r.E.length cap ∧ (0 < r.E.length → ao = some ⟨g, 0, none⟩ ∧ g < w.heap.size) ∧ r.E.length ≤ cap ∧
    ∀ (j : Nat) (x : Nat × Int), r.E[j]? = some x → w.cell? ⟨g, j * 2, none⟩ = some (.int .i64 (x.1 : Int)) ∧ w.cell? ⟨g, j * 2 + 1, none⟩ = some (.int .i64 x.2) := by
  obtain ⟨ao, g, cap, h1, h2, h3, h4, h5⟩ := owns_cells h.el
  refine ⟨ao, g, cap, h1, fun hl => ⟨h2 hl, (h3 hl).2⟩, h4, fun j x hj => ?_⟩
  obtain ⟨e1, e2⟩ := elems_get r.E j x hj
  have := h5 _ _ e1
  have h' := h5 _ _ e2
  rw [Nat.zero_add] at this h'
  exact ⟨this, h'⟩

set_option maxHeartbeats 1000000 in
theorem slotAt_any (w : World) (B : Nat) (ev fv : Value) (r : R) (i : Int) (h : RefAt w B ev fv r) (hi : -9223372036854775808 ≤ i ∧ i ≤ 9223372036854775807) :
    Calls Try.prog 24 #[refV ev fv r, .int .i64 i] w fun e w' => e = .returned (.int .i64 (oi (if i < 0 then none else slotAt r.E i.toNat))) ∧ Below w.heap.size w w' := by
  obtain ⟨ao, g, cap, rfl, hA, hcap, hcell⟩ := elem_cells h
  rcases Int.lt_or_le i 0 with h0 | h0
  · rw [if_pos h0]
    clear h hA hcell hi
    go_enter Try.func24, Try.ntmps24
    go_wp2
    go_ret
    exact ⟨rfl, (Below.refl _ _).alloc (Nat.le_refl _) _⟩
  · rw [if_neg (by omega)]
    obtain ⟨k, rfl⟩ := Int.eq_ofNat_of_zero_le h0
    rw [show (k : Int).toNat = k from rfl]
    rcases Nat.lt_or_ge k r.E.length with hlt | hge
    · obtain ⟨x, hx⟩ : ∃ x, r.E[k]? = some x := ⟨r.E[k]'hlt, List.getElem?_eq_getElem hlt⟩
      obtain ⟨rfl, hg⟩ := hA (by omega)
      obtain ⟨c1, _⟩ := hcell k x hx
      have e1 : Hid (slotAt r.E k = some x.1) := by show slotAt _ _ = _; unfold slotAt; rw [hx]; rfl
      have t1 : (k : Int) < r.E.length := by omega
      clear h hA hcell hi hx
      unfold refV
      go_enter Try.func24, Try.ntmps24
      go_wp2
      go_ret
      refine ⟨ret_num ?_, (Below.refl _ _).alloc (Nat.le_refl _) _⟩
      rw [e1.out]; rfl
    · have e1 : Hid (slotAt r.E k = none) := slotAt_none hge
      have t1 : ¬ ((k : Int) < r.E.length) := by omega
      clear h hA hcell hi
      unfold refV
      go_enter Try.func24, Try.ntmps24
      go_wp2
      go_ret
      refine ⟨ret_num ?_, (Below.refl _ _).alloc (Nat.le_refl _) _⟩
      rw [e1.out]; rfl

set_option maxHeartbeats 1000000 in
theorem rplace_any (w : World) (B : Nat) (ev fv : Value) (r : R) (s : Int) (h : RefAt w B ev fv r) (hm : r.E.length ≤ 1048576) :
    Calls Try.prog 26 #[refV ev fv r, .int .i64 s] w fun e w' => e = .returned (.int .i64 (oi (placeR r.E s))) ∧ Below w.heap.size w w' := by
  obtain ⟨ao, g, cap, rfl, hA, hcap, hcell⟩ := elem_cells h
  have HC := Lib.hid hcell
  have HA := Lib.hid hA
  clear h hA hcell
  unfold refV
  go_enter Try.func26, Try.ntmps26
  go_wp2
  go_loopw [10] (fun i wr => ∃ k : Nat, k ≤ r.E.length ∧ i = .int .i64 (k : Int) ∧ Below w.heap.size w wr ∧ w.heap.size < wr.heap.size ∧ ∀ (j : Nat) (y : Nat × Int), j < k → r.E[j]? = some y → (y.1 : Int) ≠ s) (fun i wr => r.E.length - (intOf i).toNat)
  case atStart => exact ⟨0, Nat.zero_le _, rfl, (Below.refl _ _).alloc (Nat.le_refl _) _, by simp, fun j y hj => by omega⟩
  case round =>
    obtain ⟨k, hk, rfl, hbel, hsz, hno⟩ := hrel
    rcases Nat.lt_or_ge k r.E.length with hlt | hge
    · obtain ⟨x, hx⟩ : ∃ x, r.E[k]? = some x := ⟨r.E[k]'hlt, List.getElem?_eq_getElem hlt⟩
      obtain ⟨rfl, hg⟩ := HA.out (by omega)
      obtain ⟨c1, c2⟩ := HC.out k x hx
      have d1 := (hbel.cell (p := ⟨g, k * 2, none⟩) hg).trans c1
      have d2 := (hbel.cell (p := ⟨g, k * 2 + 1, none⟩) hg).trans c2
      have HN := Lib.hid hno
      have HW := Lib.hid hbel
      have HX := Lib.hid hx
      have hlt' : (k : Int) < r.E.length := by omega
      clear hno hbel hx c1 c2
      by_cases hs : (x.1 : Int) = s
      · have hs' : ((x.1 : Int) == s) = true := by simpa using hs
        have HR : Hid (placeR r.E s = some k) := placeR_some HX.out hs HN.out
        clear hs
        go_wp2
        go_ret
        refine ⟨ret_num ?_, HW.out.alloc (by omega) _⟩
        rw [HR.out]; rfl
      · have hs' : ((x.1 : Int) == s) = false := by simpa using hs
        have HS := Lib.hid hs
        clear hs
        go_wp2
        go_roundw
        case rel =>
          refine ⟨k + 1, by omega, by go_num, HW.out.alloc (by omega) _, by simp; omega, fun j y hj hy => ?_⟩
          rcases Nat.lt_or_ge j k with h1 | h1
          · exact HN.out j y h1 hy
          · have : j = k := by omega
            subst this
            rw [HX.out] at hy
            injection hy with hy
            rw [← hy]; exact HS.out
        case measure => simp [intOf]; omega
    · have HN := Lib.hid hno
      have HW := Lib.hid hbel
      have hlt' : ¬ ((k : Int) < r.E.length) := by omega
      clear hno hbel
      go_wp2
      go_ret
      refine ⟨ret_num ?_, HW.out⟩
      rw [placeR_none (fun j y hy => HN.out j y (by
        rcases Nat.lt_or_ge j r.E.length with h1 | h1
        · omega
        · rw [List.getElem?_eq_none h1] at hy; cases hy) hy)]
      rfl
end Go.Proofs.Ytlkpdmblhejnhaa
