/- The cache: Remove. -/
import Derived.Test.YtegdchlbmjokmaaCacW4
namespace Go.Proofs.Ytegdchlbmjokmaa
open Go.RowKit
set_option linter.unusedVariables false
open Lnk

theorem CaAt.after_lis {w w3 : World} {B C sz : Nat} {T : List CT} {D : Nat} {rv : Value} {r : R} {kv : Value} {K : List Ky} {fv : Value} {F : List Nat} {M : Nat} {Dm : DataW Unit} (h : CaAt w B C sz T D rv r kv K fv F M Dm) (ho : Only (foot D rv) w w3) :
    Blk w3 C 55 #[.int .i64 (sz : Int), .pointer (some ⟨D, 0, none⟩), kv, fv, .map (some M)] ∧ w3.ownsRow B 30 32 kv K.length (keysOf K) ∧ w3.ownsRow B 3 1 fv F.length (freesOf F) ∧ w3.ownsMap Try.prog 30 (plainElem Try.prog 3) M (Maps.size Dm) Dm :=
  ⟨h.lis.blk_ne h.blk (by decide) (by decide) ho, h.lis.row_ne h.ks (by decide) (by decide) ho, h.lis.row_ne h.fr (by decide) (by decide) ho, map_only h.map ho h.foot_map.1⟩
/-- the slot of a key that is there -/
theorem cac_slot {w : World} {M n : Nat} {Dm : DataW Unit} {T : List CT} (h : w.ownsMap Try.prog 30 (plainElem Try.prog 3) M n Dm) (hm : MapOf Dm T) {t : CT} (ht : t ∈ T) {k : Ky} (hk : keyEq t.k k = true) :
    (Instr.lookup 53 (.map (some M)) (keyV k) false).run Try.prog w = .ok (.int .i64 (t.s : Int)) w := by
  have hz : (zeroValue 3).run Try.prog w = .ok (.int .i64 0) w := by rfl
  obtain ⟨c, hrun, hc, _⟩ := h.lookup_int key_keyed Try.underlying53 Try.underlying3 hz (klit_of k)
  rw [← klit_congr hk, hm.at_ t ht] at hc
  injection hc with hc
  injection hc with _ hc
  rw [hrun, hc]
theorem step_delete_key {ops : Array Oper} {o : Oper} {a : Act} {w : World} {K : Act → World → Prop} {Q : Exit → Act → World → Prop} {E : Prop} (hgd : o.guard = none) (m x : Operand)
    (hop : o.op = .call { callee := .builtin .delete, args := #[m, x], argTypes := #[53, 30] }) (M n : Nat) (Dm : DataW Unit) (hm : a.eval m = .map (some M))
    (hown : w.ownsMap Try.prog 30 (plainElem Try.prog 3) M n Dm) (k : Ky) (hx : a.eval x = .agg (bytesOf 32 k).toArray)
    (hK : ∀ w', w'.ownsMap Try.prog 30 (plainElem Try.prog 3) M n (Dm.del (klit k)) → w.mapTurned w' M → K (a.put o.dst (.tuple #[])) w') :
    if Region.wanted o (yielded ops a.tmps) = true then Oper.wp Try.prog o a w K Q else E := by
  have hw : Region.wanted o (yielded ops a.tmps) = true := by simp [Region.wanted, hgd]
  rw [if_pos hw]
  obtain ⟨w', hrun, r1, r2⟩ := hown.drop key_keyed Try.underlying53 (klit_of k) o.type
  unfold Oper.wp
  simp [execOp, hop, resolve, invoke, builtin, hm, hx, hrun, Result.andThen]
  exact hK w' r1 r2
def RemPost (w : World) (B C sz : Nat) (T : List CT) (D : Nat) (kv : Value) (K : List Ky) (F : List Nat) (M : Nat) (e : Ending) (w' : World) : Prop :=
  e = .returned (.bool true) ∧ Only (CFoot w B none) w w' ∧ ∃ rv' r' fv' Dm', CaAt w' B C sz T D rv' r' kv K fv' F M Dm'
theorem crem_end {w w1 w3 w4 w6 : World} {B C sz : Nat} {T : List CT} {D : Nat} {rv rv3 : Value} {r r3 : R} {kv : Value} {K : List Ky} {fv fv4 : Value} {F : List Nat} {M n : Nat} {Dm : DataW Unit} (h : CaAt w B C sz T D rv r kv K fv F M Dm)
    (hb1 : Below w.heap.size w w1) (h1 : CaAt w1 B C sz T D rv r kv K fv F M Dm) {i : Nat} {t : CT} (ht : T[i]? = some t) {k : Ky} (hk : keyEq t.k k = true)
    (ho3 : Only (foot D rv) w1 w3) (hl3 : Lis w3 B D rv3 r3) (hE : r3.E = (lackT T i).map CT.pair) (hU : r3.U = r.U) (hF3 : r3.F.length = r.F.length + 1)
    (hg4 : w3.grownBy w4 fv.ownBlock) (hf4 : w4.ownsRow B 3 1 fv4 (F ++ [t.i]).length (freesOf (F ++ [t.i])))
    (hm6 : w6.ownsMap Try.prog 30 (plainElem Try.prog 3) M n (Dm.del (klit k))) (o6 : Only (fun g => M = g) (w4.setCell ⟨C, 3, none⟩ fv4) w6) :
    RemPost w B C sz (lackT T i) D kv K (F ++ [t.i]) M (.returned (.bool true)) w6 := by
  obtain ⟨hb3, hk3, hf3, hm3⟩ := h1.after_lis ho3
  have ho4 := Only.of_grown hg4
  have o5 : Only (fun g => g = C) w4 (w4.setCell ⟨C, 3, none⟩ fv4) := (Only.refl (fun g => g = C) w4).setCell_ (p := ⟨C, 3, none⟩) (.inl rfl) _
  obtain ⟨fm1, fm2, fm3, fm4⟩ := h1.foot_map
  have hb4 := hb3.only ho4 (fun e => own_blk_ne hf3 hb3 (by decide) e)
  have hk4 := owns_only hk3 ho4 (fun g h1 h2 => owns_ne hk3 hf3 (by decide) h1 h2)
  have hl4 : Lis w4 B D rv3 r3 := hl3.only ho4 (fun g h1 h2 => by
    obtain ⟨c0, hl, _⟩ := hl3
    rcases h1 with rfl | h1
    · exact own_blk_ne hf3 hl.blk (by decide) h2
    · exact owns_ne hl.row hf3 (by decide) h1 h2)
  have hb5 := hb4.set_ 3 fv4
  have hk5 := owns_only hk4 o5 (fun g h1 h2 => own_blk_ne hk4 hb4 (by decide) (h2 ▸ h1))
  have hf5 := owns_only hf4 o5 (fun g h1 h2 => own_blk_ne hf4 hb4 (by decide) (h2 ▸ h1))
  have hl5 : Lis (w4.setCell ⟨C, 3, none⟩ fv4) B D rv3 r3 := hl4.only o5 (fun g h1 h2 => by
    obtain ⟨c0, hl, _⟩ := hl4
    rcases h1 with h5 | h5
    · exact Blk.ne_ hb4 hl.blk (by decide) (h2.symm.trans h5)
    · exact own_blk_ne hl.row hb4 (by decide) (h5.trans (congrArg some h2)))
  obtain ⟨es5, c5, hM5⟩ := map_blk (map_only (map_only hm3 ho4 fm4) o5 fm2.symm)
  have nrow : ∀ {base : Nat} {e : TypeId} {size n : Nat} {v : Value} {xs : List Value}, (w4.setCell ⟨C, 3, none⟩ fv4).ownsRow base e size v n xs → v.ownBlock ≠ some M := by
    intro base e size n v xs ho hg
    rcases ho.2 with ⟨rfl, _⟩ | ⟨k, cap, cur, rfl, _, h3, _⟩
    · cases hg
    · injection hg with hg
      subst hg
      rw [show (w4.setCell ⟨C, 3, none⟩ fv4).heap[_]? = _ from h3] at hM5
      cases hM5
  have nblk : ∀ {g : Nat} {t : TypeId} {cs : Array Value}, Blk (w4.setCell ⟨C, 3, none⟩ fv4) g t cs → M ≠ g := by
    rintro g t cs hh rfl
    unfold Blk at hh
    rw [hM5] at hh
    cases hh
  have hl6 : Lis w6 B D rv3 r3 := hl5.only o6 (fun g h1 h2 => by
    obtain ⟨c0, hl, _⟩ := hl5
    rcases h1 with h5 | h5
    · exact nblk hl.blk (h2.trans h5)
    · exact nrow hl.row (h5.trans (congrArg some h2.symm)))
  have hb6 := hb5.only o6 (nblk hb5)
  have hk6 := owns_only hk5 o6 (fun g h1 h2 => nrow hk5 (h2 ▸ h1))
  have hf6 := owns_only hf5 o6 (fun g h1 h2 => nrow hf5 (h2 ▸ h1))
  have F3 : Only (CFoot w1 B none) w1 w3 := ho3.mono (h1.foot_lis none)
  have F4 : Only (CFoot w1 B none) w1 w4 := F3.trans ho4 (fun g hg => .inl ⟨(h1.fr.lt g hg).1, .inr (Kin.of_own h1.fr (by simp) hg)⟩)
  have F5 : Only (CFoot w1 B none) w1 (w4.setCell ⟨C, 3, none⟩ fv4) := F4.trans o5 (fun g hg => .inl ⟨hg ▸ h1.ge, .inr (hg ▸ Kin.of_blk h1.blk (by simp))⟩)
  have F6 : Only (CFoot w1 B none) w1 w6 := F5.trans o6 (fun g hg => .inl ⟨hg ▸ h1.mg, .inr (by obtain ⟨es, c, hh⟩ := map_blk h1.map; exact hg ▸ Kin.of_map hh)⟩)
  refine ⟨rfl, ?_, rv3, r3, fv4, Dm.del (klit k), ⟨h.ge, hb6, hl6, hk6, hf6, h.mg, owns_tight hm6, inv_drop h.inv ht, hE, by rw [hU]; exact h.us, by have := h.uef; rw [h.el] at this; have := lackT_len ht; rw [hU, hE, hF3]; simp only [List.length_map] at *; omega, h.sz, map_del (h1.map.isMap) (h1.map.tidy key_keyed) h.mp h.inv.df ht hk⟩⟩
  refine (Only.of_below (CFoot w B none) hb1).trans F6 (fun g hg => ?_)
  rcases Nat.lt_or_ge g w.heap.size with hlt | hge
  · refine .inl ⟨hg.1, .inr ?_⟩
    rcases hg.2 with h2 | h2
    · cases h2
    · exact fun t cs hb => h2 t cs (hb.below hb1 hlt)
  · exact .inr hge
end Go.Proofs.Ytegdchlbmjokmaa
