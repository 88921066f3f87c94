/- The cache, plainly: which keys lie at which index, and in which order. -/
import Derived.Test.YtegdchlbmjokmaaLnkR
import Derived.Test.YtegdchlbmjokmaaKeyDs
namespace Go.Proofs.Ytegdchlbmjokmaa
open Go.RowKit
set_option linter.unusedVariables false
open Lnk

/-- one entry: the slot in the order's list, the index among the keys, the key -/
structure CT where
  s : Nat
  i : Nat
  k : Ky
def CT.pair (t : CT) : Nat × Int := (t.s, (t.i : Int))
/-- a list without one element -/
def lackT {α : Type} (T : List α) (i : Nat) : List α := T.take i ++ T.drop (i + 1)
theorem lackT_map {α β : Type} (f : α → β) (T : List α) (i : Nat) : (lackT T i).map f = lackT (T.map f) i := by
  unfold lackT; rw [List.map_append, List.map_take, List.map_drop]
theorem lackT_split {α : Type} {T : List α} {i : Nat} {t : α} (h : T[i]? = some t) : T = T.take i ++ t :: T.drop (i + 1) := by
  obtain ⟨hlt, e⟩ := List.getElem?_eq_some_iff.1 h
  rw [← e, ← List.drop_eq_getElem_cons hlt, List.take_append_drop]
theorem lackT_perm {α : Type} {T : List α} {i : Nat} {t : α} (h : T[i]? = some t) : T.Perm (lackT T i ++ [t]) := by
  have e := lackT_split h
  unfold lackT
  conv => lhs; rw [e]
  rw [List.append_assoc]
  refine List.Perm.append_left _ ?_
  exact (List.perm_append_singleton t _).symm
theorem lackT_len {α : Type} {T : List α} {i : Nat} {t : α} (h : T[i]? = some t) : T.length = (lackT T i).length + 1 := by
  have := (lackT_perm h).length_eq
  rw [List.length_append] at this
  exact this

structure CInv (sz : Nat) (T : List CT) (K : List Ky) (F : List Nat) : Prop where
  key : ∀ t ∈ T, K[t.i]? = some t.k
  nd : (T.map CT.i ++ F).Nodup
  lt : ∀ i ∈ T.map CT.i ++ F, i < K.length
  len : K.length = T.length + F.length
  le : K.length ≤ sz
  df : (T.map CT.k).Pairwise (fun a b => keyEq a b = false)
  sl : (T.map CT.s).Nodup

theorem df_symm {a b : Ky} (h : keyEq a b = false) : keyEq b a = false := by rw [keyEq_comm]; exact h
theorem inv_empty (sz : Nat) : CInv sz [] [] [] := ⟨by simp, by simp, by simp, rfl, Nat.zero_le _, by simp, by simp⟩
theorem inv_move {sz : Nat} {T : List CT} {K : List Ky} {F : List Nat} (h : CInv sz T K F) {i : Nat} {t : CT} (ht : T[i]? = some t) : CInv sz (lackT T i ++ [t]) K F := by
  have hp := lackT_perm ht
  refine ⟨fun u hu => h.key u (hp.mem_iff.2 hu), ((hp.map CT.i).append_right F).nodup_iff.1 h.nd, fun j hj => h.lt j (((hp.map CT.i).append_right F).mem_iff.2 hj), ?_, h.le, ((hp.map CT.k).pairwise_iff df_symm).1 h.df, (hp.map CT.s).nodup_iff.1 h.sl⟩
  rw [h.len, hp.length_eq]
theorem inv_drop {sz : Nat} {T : List CT} {K : List Ky} {F : List Nat} (h : CInv sz T K F) {i : Nat} {t : CT} (ht : T[i]? = some t) : CInv sz (lackT T i) K (F ++ [t.i]) := by
  have hp := lackT_perm ht
  have hq : (T.map CT.i ++ F).Perm ((lackT T i).map CT.i ++ (F ++ [t.i])) := by
    refine ((hp.map CT.i).append_right F).trans ?_
    rw [List.map_append, List.append_assoc]
    refine List.Perm.append_left _ ?_
    exact List.perm_append_comm
  have hsub : (lackT T i).Sublist T := by
    conv => rhs; rw [lackT_split ht]
    unfold lackT
    exact List.Sublist.append_left (List.sublist_cons_self _ _) _
  refine ⟨fun u hu => h.key u (hsub.subset hu), hq.nodup_iff.1 h.nd, fun j hj => h.lt j (hq.mem_iff.2 hj), ?_, h.le, h.df.sublist (hsub.map _), h.sl.sublist (hsub.map _)⟩
  have := lackT_len ht
  rw [h.len, List.length_append, List.length_singleton]
  omega
theorem inv_free {sz : Nat} {T : List CT} {K : List Ky} {F : List Nat} {i : Nat} (h : CInv sz T K (F ++ [i])) {s : Nat} {k : Ky} (hs : s ∉ T.map CT.s) (hk : ∀ t ∈ T, keyEq t.k k = false) : CInv sz (T ++ [⟨s, i, k⟩]) (K.set i k) F := by
  have hil : i < K.length := h.lt i (by simp)
  have hne : ∀ t ∈ T, t.i ≠ i := fun t ht e => by
    have := (List.nodup_append.1 h.nd).2.2 t.i (List.mem_map_of_mem ht) i (by simp)
    exact this e
  have hq : (T.map CT.i ++ (F ++ [i])).Perm ((T ++ [(⟨s, i, k⟩ : CT)]).map CT.i ++ F) := by
    rw [List.map_append, List.append_assoc]
    exact List.Perm.append_left _ List.perm_append_comm
  refine ⟨fun t ht => ?_, hq.nodup_iff.1 h.nd, fun j hj => by rw [List.length_set]; exact h.lt j (hq.mem_iff.2 hj), ?_, by rw [List.length_set]; exact h.le, ?_, ?_⟩
  · rcases List.mem_append.1 ht with ht | ht
    · rw [List.getElem?_set_ne (Ne.symm (hne t ht))]; exact h.key t ht
    · simp at ht; subst ht
      rw [List.getElem?_set_self hil]
  · have := h.len
    simp at this ⊢
    omega
  · rw [List.map_append, List.pairwise_append]
    refine ⟨h.df, by simp, fun a ha b hb => ?_⟩
    obtain ⟨t, ht, rfl⟩ := List.mem_map.1 ha
    simp at hb; subst hb
    exact hk t ht
  · rw [List.map_append, List.nodup_append]
    exact ⟨h.sl, by simp, fun a ha b hb => by simp at hb; subst hb; rintro rfl; exact hs ha⟩
theorem inv_new {sz : Nat} {T : List CT} {K : List Ky} (h : CInv sz T K []) (hz : K.length < sz) {s : Nat} {k : Ky} (hs : s ∉ T.map CT.s) (hk : ∀ t ∈ T, keyEq t.k k = false) : CInv sz (T ++ [⟨s, K.length, k⟩]) (K ++ [k]) [] := by
  have hlt := h.lt
  have hnd := h.nd
  have hlen := h.len
  simp only [List.append_nil, List.length_nil, Nat.add_zero] at hlt hnd hlen
  refine ⟨fun t ht => ?_, ?_, ?_, ?_, by rw [List.length_append]; exact hz, ?_, ?_⟩
  · rcases List.mem_append.1 ht with ht | ht
    · rw [List.getElem?_append_left (hlt _ (List.mem_map_of_mem ht))]; exact h.key t ht
    · simp at ht; subst ht
      simp
  · rw [List.append_nil, List.map_append, List.nodup_append]
    exact ⟨hnd, by simp, fun a ha b hb => by simp at hb; subst hb; have := hlt a ha; omega⟩
  · intro j hj
    rw [List.append_nil, List.map_append] at hj
    rw [List.length_append]
    rcases List.mem_append.1 hj with hj | hj
    · have := hlt j hj; omega
    · simp at hj; subst hj; simp
  · simp [hlen]
  · rw [List.map_append, List.pairwise_append]
    refine ⟨h.df, by simp, fun a ha b hb => ?_⟩
    obtain ⟨t, ht, rfl⟩ := List.mem_map.1 ha
    simp at hb; subst hb
    exact hk t ht
  · rw [List.map_append, List.nodup_append]
    exact ⟨h.sl, by simp, fun a ha b hb => by simp at hb; subst hb; rintro rfl; exact hs ha⟩
end Go.Proofs.Ytegdchlbmjokmaa
