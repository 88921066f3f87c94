/- The cache: what its map and its list say behind a step; the blocks that it may turn. -/
import Derived.Test.YtegdchlbmjokmaaCacW3
namespace Go.Proofs.Ytegdchlbmjokmaa
open Go.RowKit
set_option linter.unusedVariables false
open Lnk

/-! ### the map -/
theorem lackT_any {T : List CT} {i : Nat} {t : CT} (h : T[i]? = some t) (p : CT → Bool) : T.any p = ((lackT T i).any p || p t) := by
  rw [(lackT_perm h).any_eq, List.any_append]; simp
theorem df_at {T : List CT} (h : (T.map CT.k).Pairwise (fun a b => keyEq a b = false)) {i : Nat} {t : CT} (ht : T[i]? = some t) : ∀ u ∈ lackT T i, keyEq u.k t.k = false := by
  have h2 := (((lackT_perm ht).map CT.k).pairwise_iff df_symm).1 h
  rw [List.map_append, List.pairwise_append] at h2
  exact fun u hu => h2.2.2 u.k (List.mem_map_of_mem hu) t.k (by simp)
theorem mem_lackT {T : List CT} {i : Nat} {u : CT} (h : u ∈ lackT T i) : u ∈ T := by
  unfold lackT at h
  rcases List.mem_append.1 h with h | h
  · exact List.mem_of_mem_take h
  · exact List.mem_of_mem_drop h
theorem map_del {D : DataW Unit} {T : List CT} (hm : Maps.IsMap D) (htd : Maps.Tidy D) (h : MapOf D T) (hd : (T.map CT.k).Pairwise (fun a b => keyEq a b = false)) {i : Nat} {t : CT} (ht : T[i]? = some t) {k : Ky} (hk : keyEq t.k k = true) : MapOf (D.del (klit k)) (lackT T i) := by
  have hdf := df_at hd ht
  have hkl : klit k = klit t.k := (klit_congr hk).symm
  refine ⟨fun k' => ?_, fun u hu => ?_, ?_⟩
  · cases he : keyEq t.k k' with
    | true =>
      rw [hkl, klit_congr he, Maps.has_del_same]
      refine (Bool.eq_false_iff.2 fun h2 => ?_).symm
      obtain ⟨u, hu, h3⟩ := List.any_eq_true.1 h2
      have h4 := hdf u hu
      rw [keyEq_trans h3 (by rw [keyEq_comm]; exact he)] at h4
      cases h4
    | false =>
      rw [hkl, Maps.has_del_other (Ne.symm (klit_ne he)), h.has k', lackT_any ht]
      simp only [he, Bool.or_false]
  · rw [hkl, Maps.atKey_del_other (klit_ne (hdf u hu))]
    exact h.at_ u (mem_lackT hu)
  · have h2 := Maps.size_del (k := klit k) htd
    have h3 : Maps.has D (klit k) = true := by rw [h.has k, lackT_any ht]; simp [hk]
    rw [h3, if_pos rfl, h.size, lackT_len ht] at h2
    omega
theorem map_put {D : DataW Unit} {T : List CT} (hm : Maps.IsMap D) (htd : Maps.Tidy D) (h : MapOf D T) {k : Ky} (hno : (T.any fun t => keyEq t.k k) = false) (s i : Nat) : MapOf (D.put (klit k) (.lit (.int .i64 (s : Int)))) (T ++ [⟨s, i, k⟩]) := by
  refine ⟨fun k' => ?_, fun u hu => ?_, ?_⟩
  · rw [List.any_append]
    cases he : keyEq k k' with
    | true => rw [← klit_congr he, Maps.has_put_same hm (klit_key k)]; simp [he]
    | false => rw [Maps.has_put_other (Ne.symm (klit_ne he)), h.has k']; simp [he]
  · rcases List.mem_append.1 hu with hu | hu
    · have he : keyEq u.k k = false := by
        rw [← Bool.not_eq_true]
        intro h2
        have := (List.any_eq_true (p := fun t : CT => keyEq t.k k) (l := T)).2 ⟨u, hu, h2⟩
        rw [hno] at this
        cases this
      rw [Maps.atKey_put_other (klit_ne he)]
      exact h.at_ u hu
    · simp at hu
      subst hu
      exact Maps.atKey_put_same hm (klit_key k) _ _
  · rw [Maps.size_put htd, h.has k, hno, List.length_append]
    simp [h.size]
/-- the key is there, and goes to the end -/
theorem map_move {D : DataW Unit} {T : List CT} (h : MapOf D T) {i : Nat} {t : CT} (ht : T[i]? = some t) {k : Ky} (hk : keyEq t.k k = true) : MapOf D (lackT T i ++ [⟨t.s, t.i, k⟩]) := by
  refine ⟨fun k' => ?_, fun u hu => ?_, ?_⟩
  · rw [h.has k', lackT_any ht, List.any_append]
    simp [keyEq_left hk]
  · rcases List.mem_append.1 hu with hu | hu
    · exact h.at_ u (mem_lackT hu)
    · simp at hu
      subst hu
      rw [← klit_congr hk]
      exact h.at_ t (List.mem_of_getElem? ht)
  · rw [h.size, lackT_len ht, List.length_append, List.length_singleton]
theorem inv_move2 {sz : Nat} {T : List CT} {K : List Ky} {F : List Nat} (h : CInv sz T K F) {i : Nat} {t : CT} (ht : T[i]? = some t) {k : Ky} (hk : keyEq t.k k = true) : CInv sz (lackT T i ++ [⟨t.s, t.i, k⟩]) (K.set t.i k) F := by
  have hm := inv_move h ht
  have e1 : (lackT T i ++ [(⟨t.s, t.i, k⟩ : CT)]).map CT.i = (lackT T i ++ [t]).map CT.i := by simp
  have e2 : (lackT T i ++ [(⟨t.s, t.i, k⟩ : CT)]).map CT.s = (lackT T i ++ [t]).map CT.s := by simp
  have hti : t.i < K.length := h.lt t.i (List.mem_append_left _ (List.mem_map_of_mem (List.mem_of_getElem? ht)))
  refine ⟨fun u hu => ?_, by rw [e1]; exact hm.nd, by rw [e1, List.length_set]; exact hm.lt, ?_, by rw [List.length_set]; exact hm.le, ?_, by rw [e2]; exact hm.sl⟩
  · rcases List.mem_append.1 hu with hu | hu
    · have hne : t.i ≠ u.i := by
        have h2 := (List.nodup_append.1 hm.nd).1
        rw [List.map_append, List.nodup_append] at h2
        exact fun e => h2.2.2 u.i (List.mem_map_of_mem hu) t.i (by simp) e.symm
      rw [List.getElem?_set_ne hne]
      exact h.key u (mem_lackT hu)
    · simp at hu
      subst hu
      rw [List.getElem?_set_self hti]
  · rw [List.length_set]
    have := hm.len
    simp at this ⊢
    omega
  · have h2 := hm.df
    rw [List.map_append, List.pairwise_append] at h2 ⊢
    refine ⟨h2.1, by simp, fun a ha b hb => ?_⟩
    simp at hb
    subst hb
    have := h2.2.2 a ha t.k (by simp)
    rw [keyEq_comm] at this ⊢
    rw [← keyEq_left hk]
    exact this
/-- the bytes of the keys are the same behind it -/
theorem keysOf_same {K : List Ky} {i : Nat} {k k' : Ky} (h : K[i]? = some k) (hk : keyEq k k' = true) : keysOf (K.set i k') = keysOf K := by
  obtain ⟨hi, e⟩ := List.getElem?_eq_some_iff.1 h
  conv => rhs; rw [← List.set_getElem_self hi]
  rw [e, keysOf_set _ _ hi, keysOf_set _ _ hi, keyV_congr hk]

/-! ### the list -/
theorem place_pair {T : List CT} (hs : (T.map CT.s).Nodup) {i : Nat} {t : CT} (ht : T[i]? = some t) : placeR (T.map CT.pair) (t.s : Int) = some i := by
  refine placeR_some (x := t.pair) (by rw [List.getElem?_map, ht]; rfl) rfl (fun j y hj hy e => ?_)
  rw [List.getElem?_map] at hy
  obtain ⟨u, hu, rfl⟩ := Option.map_eq_some_iff.1 hy
  have e' : u.s = t.s := by exact Int.ofNat_inj.1 e
  obtain ⟨h1, e1⟩ := List.getElem?_eq_some_iff.1 hu
  obtain ⟨h2, e2⟩ := List.getElem?_eq_some_iff.1 ht
  have h3 := List.pairwise_iff_getElem.1 hs j i (by simpa using h1) (by simpa using h2) hj
  exact h3 (by simp [e1, e2, e'])
theorem value_pair {T : List CT} (hs : (T.map CT.s).Nodup) {i : Nat} {t : CT} (ht : T[i]? = some t) : valueR (T.map CT.pair) (t.s : Int) = (t.i : Int) := by
  unfold valueR
  rw [place_pair hs ht]
  show ((T.map CT.pair).getD i (0, 0)).2 = _
  rw [List.getD_eq_getElem?_getD, List.getElem?_map, ht]
  rfl
theorem without_pair (T : List CT) (i : Nat) : without (T.map CT.pair) i = (lackT T i).map CT.pair := by
  rw [lackT_map]; rfl

/-! ### the blocks -/
/-- every block of cells there is of one of these types -/
def Kin (w : World) (ts : List TypeId) (g : Nat) : Prop := ∀ t cs, Blk w g t cs → t ∈ ts
def CFoot (w : World) (B : Nat) (kb : Option Nat) (g : Nat) : Prop := B ≤ g ∧ (kb = some g ∨ Kin w [55, 63, 65, 3] g)
theorem Kin.of_blk {w : World} {ts : List TypeId} {g : Nat} {t : TypeId} {cs : Array Value} (h : Blk w g t cs) (ht : t ∈ ts) : Kin w ts g := fun t' cs' h' => by
  unfold Blk at h h'
  rw [h] at h'
  injection h' with h'
  injection h' with _ h2
  rw [← h2]; exact ht
theorem Kin.of_own {w : World} {ts : List TypeId} {base : Nat} {e : TypeId} {size n : Nat} {v : Value} {xs : List Value} (h : w.ownsRow base e size v n xs) (ht : e ∈ ts) {g : Nat} (hg : v.ownBlock = some g) : Kin w ts g := by
  rcases h.2 with ⟨rfl, _⟩ | ⟨k, cap, cur, rfl, _, h3, _⟩
  · cases hg
  · injection hg with hg
    subst hg
    exact Kin.of_blk h3 ht
theorem Kin.of_map {w : World} {ts : List TypeId} {g : Nat} {es : Array MapEntry} {c : Nat} (h : w.heap[g]? = some (.map es c)) : Kin w ts g := fun t cs h' => by
  unfold Blk at h'
  rw [h] at h'
  cases h'
theorem Kin.not {w : World} {ts : List TypeId} {g : Nat} {t : TypeId} {cs : Array Value} (h : Blk w g t cs) (ht : t ∉ ts) : ¬ Kin w ts g := fun h' => ht (h' t cs h)
theorem CaAt.kb_ne {w : World} {B C sz : Nat} {T : List CT} {D : Nat} {rv : Value} {r : R} {kv : Value} {K : List Ky} {fv : Value} {F : List Nat} {M : Nat} {Dm : DataW Unit} (h : CaAt w B C sz T D rv r kv K fv F M Dm) {g : Nat} {t : TypeId} {cs : Array Value} (hb : Blk w g t cs) (ht : t ∉ [55, 63, 65, 3]) (hk : t ≠ 30) : ¬ CFoot w B kv.ownBlock g := by
  rintro ⟨_, h1 | h1⟩
  · exact own_blk_ne h.ks hb (Ne.symm hk) h1
  · exact Kin.not hb ht h1
theorem map_blk {w : World} {M n : Nat} {D : DataW Unit} (h : w.ownsMap Try.prog 30 (plainElem Try.prog 3) M n D) : ∃ es c, w.heap[M]? = some (.map es c) := by
  obtain ⟨es, clock, h1, _⟩ := h
  exact ⟨es, clock, h1⟩
theorem map_only {w w' : World} {S : Nat → Prop} {M n : Nat} {D : DataW Unit} (h : w.ownsMap Try.prog 30 (plainElem Try.prog 3) M n D) (ho : Only S w w') (hS : ¬ S M) : w'.ownsMap Try.prog 30 (plainElem Try.prog 3) M n D := by
  have hlt := h.lt
  obtain ⟨es, clock, h1, h2⟩ := h
  exact ⟨es, clock, (ho.block M hlt hS).trans h1, h2⟩
theorem CaAt.below {w w' : World} {B C sz : Nat} {T : List CT} {D : Nat} {rv : Value} {r : R} {kv : Value} {K : List Ky} {fv : Value} {F : List Nat} {M : Nat} {Dm : DataW Unit} (h : CaAt w B C sz T D rv r kv K fv F M Dm) (hb : Below w.heap.size w w') : CaAt w' B C sz T D rv r kv K fv F M Dm :=
  ⟨h.ge, h.blk.below hb h.blk.lt, h.lis.below hb, owns_below h.ks hb, owns_below h.fr hb, h.mg, h.map.kept (below_grownBy hb none) (by simp), h.inv, h.el, h.us, h.uef, h.sz, h.mp⟩
theorem CFoot.ge {w : World} {B : Nat} {kb : Option Nat} : ∀ g, CFoot w B kb g → B ≤ g := fun g h => h.1
/-- the map's block is none of the others -/
theorem CaAt.foot_map {w : World} {B C sz : Nat} {T : List CT} {D : Nat} {rv : Value} {r : R} {kv : Value} {K : List Ky} {fv : Value} {F : List Nat} {M : Nat} {Dm : DataW Unit} (h : CaAt w B C sz T D rv r kv K fv F M Dm) : ¬ foot D rv M ∧ C ≠ M ∧ kv.ownBlock ≠ some M ∧ fv.ownBlock ≠ some M := by
  obtain ⟨es, c, hM⟩ := map_blk h.map
  have hrow : ∀ {base : Nat} {e : TypeId} {size n : Nat} {v : Value} {xs : List Value}, w.ownsRow base e size v n xs → v.ownBlock ≠ some M := by
    intro base e size n v xs ho hg
    rcases ho.2 with ⟨rfl, _⟩ | ⟨k, cap, cur, rfl, _, h3, _⟩
    · cases hg
    · injection hg with hg
      subst hg
      rw [show w.heap[_]? = _ from h3] at hM
      cases hM
  obtain ⟨c0, hl, _⟩ := h.lis
  refine ⟨?_, ?_, hrow h.ks, hrow h.fr⟩
  · rintro (e | e)
    · have := hl.blk
      unfold Blk at this
      rw [← e, hM] at this
      cases this
    · exact hrow hl.row e
  · intro e
    have := h.blk
    unfold Blk at this
    rw [e, hM] at this
    cases this
/-- what the list's steps turn -/
theorem CaAt.foot_lis {w : World} {B C sz : Nat} {T : List CT} {D : Nat} {rv : Value} {r : R} {kv : Value} {K : List Ky} {fv : Value} {F : List Nat} {M : Nat} {Dm : DataW Unit} (h : CaAt w B C sz T D rv r kv K fv F M Dm) (kb : Option Nat) : ∀ g, foot D rv g → CFoot w B kb g := by
  intro g hg
  refine ⟨h.lis.ge g hg, .inr ?_⟩
  obtain ⟨c0, hl, _⟩ := h.lis
  rcases hg with rfl | hg
  · exact Kin.of_blk hl.blk (by simp)
  · exact Kin.of_own hl.row (by simp) hg
end Go.Proofs.Ytegdchlbmjokmaa
