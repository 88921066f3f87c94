/- The cache: what Push leaves. -/
import Derived.Test.YtegdchlbmjokmaaCacW7
namespace Go.Proofs.Ytegdchlbmjokmaa
open Go.RowKit
set_option linter.unusedVariables false
open Lnk

theorem CaAt.after_place {w w2 : World} {B C sz : Nat} {T : List CT} {D : Nat} {rv : Value} {r : R} {kv : Value} {K : List Ky} {fv : Value} {F : List Nat} {M : Nat} {Dm : DataW Unit} (h : CaAt w B C sz T D rv r kv K fv F M Dm) (ho : Only (fun g => g = C ∨ kv.ownBlock = some g) w w2) :
    Lis w2 B D rv r ∧ w2.ownsMap Try.prog 30 (plainElem Try.prog 3) M (Maps.size Dm) Dm := by
  refine ⟨h.lis.only ho (fun g h1 h2 => ?_), map_only h.map ho (fun e => ?_)⟩
  · obtain ⟨c0, hl, _⟩ := h.lis
    rcases h1 with h5 | h5
    · rcases h2 with h6 | h6
      · exact Blk.ne_ h.blk hl.blk (by decide) (h6.symm.trans h5)
      · exact own_blk_ne h.ks hl.blk (by decide) (h6.trans (congrArg some h5))
    · rcases h2 with h6 | h6
      · exact own_blk_ne hl.row h.blk (by decide) (h5.trans (congrArg some h6))
      · exact owns_ne hl.row h.ks (by decide) h5 h6
  · obtain ⟨_, f2, f3, _⟩ := h.foot_map
    rcases e with e | e
    · exact f2 e.symm
    · exact f3 e
theorem push_end_add {w1 w2 w3 w4 : World} {B C sz : Nat} {T : List CT} {D : Nat} {rv rv3 : Value} {r : R} {kv : Value} {K : List Ky} {fv : Value} {F : List Nat} {M n : Nat} {Dm : DataW Unit} (h : CaAt w1 B C sz T D rv r kv K fv F M Dm) {k : Ky}
    (hz : T.length < sz) (hno : (T.any fun t => keyEq t.k k) = false) {e2 : Ending} (hp : PlacePost w1 B C (.int .i64 (sz : Int)) (.pointer (some ⟨D, 0, none⟩)) (.map (some M)) kv fv (plI K F) (plK K F k) F.dropLast e2 w2)
    (ho3 : Only (foot D rv) w2 w3) (hl3 : Lis w3 B D rv3 (pushBackR r (plI K F : Int))) (o4 : Only (fun g => M = g) w3 w4) (hm4 : w4.ownsMap Try.prog 30 (plainElem Try.prog 3) M n (Dm.put (klit k) (.lit (.int .i64 (slotR r : Int))))) :
    CPost w1 B C sz kv.ownBlock (T.map CT.k ++ [k]) (.bool true) (.returned (.bool true)) w4 := by
  obtain ⟨_, ho2, kv2, fv2, hkv2, hfv2, hb2, hk2, hf2⟩ := hp
  obtain ⟨hl2, hm2⟩ := h.after_place ho2
  have hb3 := hl2.blk_ne hb2 (by decide) (by decide) ho3
  have hk3 := hl2.row_ne hk2 (by decide) (by decide) ho3
  have hf3 := hl2.row_ne hf2 (by decide) (by decide) ho3
  have fM : ¬ foot D rv M := h.foot_map.1
  have hm3 := map_only hm2 ho3 fM
  obtain ⟨es, c, hM3⟩ := map_blk hm3
  have nrow : ∀ {base : Nat} {e : TypeId} {size n : Nat} {v : Value} {xs : List Value}, w3.ownsRow base e size v n xs → v.ownBlock ≠ some M := by
    intro base e size n v xs ho hg
    rcases ho.2 with ⟨rfl, _⟩ | ⟨k, cap, cur, rfl, _, h3, _⟩
    · cases hg
    · injection hg with hg
      subst hg
      rw [show w3.heap[_]? = _ from h3] at hM3
      cases hM3
  have nblk : ∀ {g : Nat} {t : TypeId} {cs : Array Value}, Blk w3 g t cs → M ≠ g := by
    rintro g t cs hh rfl
    unfold Blk at hh
    rw [hM3] at hh
    cases hh
  have hl4 : Lis w4 B D rv3 (pushBackR r (plI K F : Int)) := hl3.only o4 (fun g h1 h2 => by
    obtain ⟨c0, hl, _⟩ := hl3
    rcases h1 with h5 | h5
    · exact nblk hl.blk (h2.trans h5)
    · exact nrow hl.row (h5.trans (congrArg some h2.symm)))
  have hb4 := hb3.only o4 (nblk hb3)
  have hk4 := owns_only hk3 o4 (fun g h1 h2 => nrow hk3 (h1.trans (congrArg some h2.symm)))
  have hf4 := owns_only hf3 o4 (fun g h1 h2 => nrow hf3 (h1.trans (congrArg some h2.symm)))
  have hsl := slot_new h.lis h.el
  have hke : ∀ t ∈ T, keyEq t.k k = false := fun t ht => by
    rw [← Bool.not_eq_true]
    intro h2
    have := (List.any_eq_true (p := fun t : CT => keyEq t.k k) (l := T)).2 ⟨t, ht, h2⟩
    rw [hno] at this
    cases this
  have hE : (pushBackR r (plI K F : Int)).E = (T ++ [(⟨slotR r, plI K F, k⟩ : CT)]).map CT.pair := by
    show r.E ++ _ = _
    rw [h.el, List.map_append]; rfl
  have F2 : Only (CFoot w1 B kv.ownBlock) w1 w2 := ho2.mono (fun g hg => by
    rcases hg with hg | hg
    · exact ⟨hg ▸ h.ge, .inr (hg ▸ Kin.of_blk h.blk (by simp))⟩
    · exact ⟨(h.ks.lt g hg).1, .inl hg⟩)
  have F3 : Only (CFoot w1 B kv.ownBlock) w1 w3 := F2.trans ho3 (fun g hg => .inl (h.foot_lis _ g hg))
  have F4 : Only (CFoot w1 B kv.ownBlock) w1 w4 := F3.trans o4 (fun g hg => .inl ⟨hg ▸ h.mg, .inr (by obtain ⟨es, c, hh⟩ := map_blk h.map; exact hg ▸ Kin.of_map hh)⟩)
  refine ⟨rfl, F4, kv2.ownBlock, hkv2, D, rv3, _, kv2, _, fv2, _, M, _, T ++ [(⟨slotR r, plI K F, k⟩ : CT)], ⟨h.ge, hb4, hl4, hk4, hf4, h.mg, owns_tight hm4, inv_place h.inv hz hsl hke, hE, ?_, pushBack_U h.uef, h.sz, map_put (h.map.isMap) (h.map.tidy key_keyed) h.mp hno _ _⟩, by simp, rfl⟩
  have h1 := h.uef
  have h2 := h.us
  rw [h.el, List.length_map] at h1
  show (if r.F.length = 0 then r.U + 1 else r.U) ≤ sz
  split <;> omega
theorem push_end_move {w w1 w2 : World} {B C sz : Nat} {T : List CT} {D : Nat} {rv rv2 : Value} {r : R} {kv : Value} {K : List Ky} {fv : Value} {F : List Nat} {M : Nat} {Dm : DataW Unit} (h : CaAt w B C sz T D rv r kv K fv F M Dm) (hb : Below w.heap.size w w1)
    {i : Nat} {t : CT} (ht : T[i]? = some t) {k : Ky} (hk : keyEq t.k k = true) (ho : Only (foot D rv) w1 w2) (hl : Lis w2 B D rv2 (turnR r (t.s : Int))) :
    CPost w B C sz kv.ownBlock (lackT (T.map CT.k) i ++ [k]) (.bool false) (.returned (.bool false)) w2 := by
  have h1 := h.below hb
  obtain ⟨hb2, hk2, hf2, hm2⟩ := h1.after_lis ho
  have hE : turnR r (t.s : Int) = moveR r i t.pair := by
    unfold turnR
    rw [h.el, place_pair h.inv.sl ht]
    show moveR r i ((T.map CT.pair).getD i (0, 0)) = _
    rw [List.getD_eq_getElem?_getD, List.getElem?_map, ht]
    rfl
  rw [hE] at hl
  have hkk : K[t.i]? = some t.k := h.inv.key t (List.mem_of_getElem? ht)
  refine ⟨rfl, (Only.of_below (CFoot w B kv.ownBlock) hb).trans (ho.mono (h1.foot_lis kv.ownBlock)) (CFoot.back (fun _ => False) (Only.of_below _ hb) (fun g hg => hg.elim) (.inl rfl)), kv.ownBlock, .inl rfl, D, rv2, _, kv, K.set t.i k, fv, F, M, Dm, lackT T i ++ [⟨t.s, t.i, k⟩],
    ⟨h.ge, hb2, hl, by rw [keysOf_same hkk hk, List.length_set]; exact hk2, hf2, h.mg, hm2, inv_move2 h.inv ht hk, ?_, h.us, ?_, h.sz, map_move h.mp ht hk⟩, by rw [List.map_append, lackT_map]; rfl, rfl⟩
  · show without r.E i ++ [t.pair] = _
    rw [h.el, without_pair, List.map_append]
    rfl
  · show r.U = (without r.E i ++ [t.pair]).length + r.F.length
    have h2 := h.uef
    have h3 := lackT_len ht
    rw [h.el, List.length_map] at h2
    rw [h.el, without_pair, List.length_append, List.length_map, List.length_singleton]
    omega
end Go.Proofs.Ytegdchlbmjokmaa
