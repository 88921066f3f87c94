/- LinkedSlots: what holds of the list and of the slots, plainly. -/
import Derived.Test.YtlkpdmblhejnhaaLnkLw
namespace Go.Proofs.Ytlkpdmblhejnhaa
open Go.RowKit
set_option linter.unusedVariables false
open Lnk

/-- the list r keeps the element 1000 in slot 0, and one element in each slot of S; no slot is most or more -/
structure Keeps (r : R) (S : List Nat) (most : Nat) : Prop where
  kept : ∃ j : Nat, r.E[j]? = some (0, 1000)
  cnt : r.E.length = S.length + 1
  mem : ∀ s ∈ S, s ≠ 0 ∧ ∃ (j : Nat) (v : Int), r.E[j]? = some (s, v)
  nd : S.Nodup
  uef : r.U = r.E.length + r.F.length
  mo : r.U ≤ most

theorem slotR_fresh {c : LS} {r : R} (h : Rep c r) {j : Nat} {x : Nat × Int} (hx : r.E[j]? = some x) : x.1 ≠ slotR r := h.fresh j x hx
theorem inv_front {c : LS} {r : R} {S : List Nat} {most : Nat} (h : Keeps r S most) (hr : Rep c r) (v : Int) : Keeps (pushFrontR r v) (S ++ [slotR r]) (max most ((S ++ [slotR r]).length + 1)) := by
  obtain ⟨⟨j, hj⟩, h2, h3, h4, h5, h6⟩ := h
  have hU : (pushFrontR r v).U = (if r.F.length = 0 then r.U + 1 else r.U) := rfl
  have hF : (pushFrontR r v).F.length = r.F.length - 1 := by show (r.F.take (r.F.length - 1)).length = _; rw [List.length_take]; omega
  have hE : (pushFrontR r v).E = (slotR r, v) :: r.E := rfl
  refine ⟨⟨j + 1, by rw [hE]; simpa using hj⟩, by rw [hE]; simp; exact h2, ?_, ?_, ?_, ?_⟩
  · intro s hs
    rcases List.mem_append.1 hs with hs | hs
    · obtain ⟨a, k, w, hk⟩ := h3 s hs
      exact ⟨a, k + 1, w, by rw [hE]; simpa using hk⟩
    · have : s = slotR r := by simpa using hs
      subst this
      exact ⟨(fun e => slotR_fresh hr hj e.symm), 0, v, by rw [hE]; rfl⟩
  · rw [List.nodup_append]
    refine ⟨h4, by simp, fun a ha b hb => ?_⟩
    have : b = slotR r := by simpa using hb
    subst this
    obtain ⟨_, k, w, hk⟩ := h3 a ha
    exact slotR_fresh hr hk
  · rw [hU, hF, hE]
    simp only [List.length_cons]
    split <;> omega
  · rw [hU]
    simp only [List.length_append, List.length_cons, List.length_nil]
    split
    · rename_i h0
      have : r.U + 1 ≤ S.length + (0 + 1) + 1 := by omega
      exact Nat.le_trans this (Nat.le_max_right _ _)
    · exact Nat.le_trans h6 (Nat.le_max_left _ _)
theorem inv_more {r : R} {S : List Nat} {most : Nat} (h : Keeps r S most) (m : Nat) (hm : most ≤ m) : Keeps r S m := ⟨h.kept, h.cnt, h.mem, h.nd, h.uef, Nat.le_trans h.mo hm⟩
theorem inv_drop {c : LS} {r : R} {S : List Nat} {most : Nat} (h : Keeps r S most) (hr : Rep c r) {i s : Nat} (hi : S[i]? = some s) : Keeps (dropR r (s : Int)) (S.take i ++ S.drop (i + 1)) most ∧ (placeR r.E (s : Int)).isSome = true := by
  obtain ⟨⟨j, hj⟩, h2, h3, h4, h5, h6⟩ := h
  have hil : i < S.length := by
    rcases Nat.lt_or_ge i S.length with h1 | h1
    · exact h1
    · rw [List.getElem?_eq_none h1] at hi; cases hi
  obtain ⟨hs0, k, v, hk⟩ := h3 s (List.mem_of_getElem? hi)
  have hp : placeR r.E (s : Int) = some k := placeR_some hk rfl fun j' y hj' hy e => by
    have := hr.ch.nd j' k y (s, v) hy hk (by show y.1 = s; omega)
    omega
  have hd : dropR r (s : Int) = removeR r k s := by unfold dropR; rw [hp]; rfl
  have hkl : k < r.E.length := by
    rcases Nat.lt_or_ge k r.E.length with h1 | h1
    · exact h1
    · rw [List.getElem?_eq_none h1] at hk; cases hk
  have hne : ∀ t, t ∈ S.take i ++ S.drop (i + 1) → t ≠ s ∧ t ∈ S := by
    intro t ht
    have hsplit : S = S.take i ++ s :: S.drop (i + 1) := by
      have e : S[i] = s := by rw [List.getElem?_eq_getElem hil] at hi; injection hi
      have := List.take_append_drop i S
      rw [List.drop_eq_getElem_cons hil, e] at this
      exact this.symm
    have hnd := h4
    rw [hsplit, List.nodup_append, List.nodup_cons] at hnd
    obtain ⟨n1, ⟨n2, n3⟩, n4⟩ := hnd
    rcases List.mem_append.1 ht with h | h
    · exact ⟨fun e => n4 t h s (List.mem_cons_self ..) e, List.mem_of_mem_take h⟩
    · exact ⟨fun e => n2 (e ▸ h), List.mem_of_mem_drop h⟩
  refine ⟨?_, by rw [hp]; rfl⟩
  rw [hd]
  refine ⟨?_, ?_, ?_, ?_, ?_, h6⟩
  · exact mem_without hk hr.ch.nd hj (by show (0 : Nat) ≠ s; omega)
  · show (without r.E k).length = _
    rw [length_without _ _ hkl, List.length_append, List.length_take, List.length_drop]
    omega
  · intro t ht
    obtain ⟨hts, htS⟩ := hne t ht
    obtain ⟨a, j', v', hj'⟩ := h3 t htS
    obtain ⟨q, hq⟩ := mem_without hk hr.ch.nd hj' (by exact hts)
    exact ⟨a, q, v', hq⟩
  · have hsub : (S.take i ++ S.drop (i + 1)).Sublist S := by
      have := List.take_append_drop i S
      conv => rhs; rw [← this]
      exact List.Sublist.append (List.Sublist.refl _) (List.drop_sublist_drop_left S (by omega))
    exact List.Nodup.sublist hsub h4
  · show r.U = (without r.E k).length + (r.F ++ [s]).length
    rw [length_without _ _ hkl]
    simp
    omega
theorem inv_turn {c : LS} {r : R} {S : List Nat} {most : Nat} (h : Keeps r S most) (hr : Rep c r) : Keeps (turnR r 0) S most := by
  obtain ⟨⟨j, hj⟩, h2, h3, h4, h5, h6⟩ := h
  have hp : placeR r.E 0 = some j := placeR_some (x := (0, 1000)) hj rfl fun j' y hj' hy e => by
    have := hr.ch.nd j' j y (0, 1000) hy hj (by show y.1 = 0; omega)
    omega
  have hjl : j < r.E.length := by
    rcases Nat.lt_or_ge j r.E.length with h1 | h1
    · exact h1
    · rw [List.getElem?_eq_none h1] at hj; cases hj
  have hd : turnR r 0 = moveR r j (0, 1000) := by unfold turnR; rw [hp]; show moveR r j _ = _; rw [List.getD_eq_getElem?_getD, hj]; rfl
  rw [hd]
  have hE : (moveR r j (0, 1000)).E = without r.E j ++ [(0, 1000)] := rfl
  refine ⟨⟨(without r.E j).length, by rw [hE]; simp⟩, ?_, ?_, h4, ?_, h6⟩
  · rw [hE, List.length_append, length_without _ _ hjl]; simp; omega
  · intro t ht
    obtain ⟨a, j', v', hj'⟩ := h3 t ht
    obtain ⟨q, hq⟩ := mem_without hj hr.ch.nd hj' (by exact a)
    have hql : q < (without r.E j).length := by
      rcases Nat.lt_or_ge q (without r.E j).length with h1 | h1
      · exact h1
      · rw [List.getElem?_eq_none h1] at hq; cases hq
    exact ⟨a, q, v', by rw [hE, List.getElem?_append, if_pos hql]; exact hq⟩
  · show r.U = (moveR r j (0, 1000)).E.length + r.F.length
    rw [hE, List.length_append, length_without _ _ hjl]; simp; omega
theorem inv_ask {c : LS} {r : R} {S : List Nat} {most : Nat} (h : Keeps r S most) (hr : Rep c r) : (placeR r.E 0).isSome = true ∧ valueR r.E 0 = 1000 ∧ r.E.length = S.length + 1 ∧ ∀ (i s : Nat), S[i]? = some s → s ≠ 0 ∧ s < most := by
  obtain ⟨⟨j, hj⟩, h2, h3, h4, h5, h6⟩ := h
  have hp : placeR r.E 0 = some j := placeR_some (x := (0, 1000)) hj rfl fun j' y hj' hy e => by
    have := hr.ch.nd j' j y (0, 1000) hy hj (by show y.1 = 0; omega)
    omega
  refine ⟨by rw [hp]; rfl, ?_, h2, fun i s hs => ?_⟩
  · unfold valueR; rw [hp]; show (r.E.getD j (0, 0)).2 = _; rw [List.getD_eq_getElem?_getD, hj]; rfl
  · obtain ⟨a, k, v, hk⟩ := h3 s (List.mem_of_getElem? hs)
    exact ⟨a, Nat.lt_of_lt_of_le (hr.el k _ hk).1 h6⟩
end Go.Proofs.Ytlkpdmblhejnhaa
